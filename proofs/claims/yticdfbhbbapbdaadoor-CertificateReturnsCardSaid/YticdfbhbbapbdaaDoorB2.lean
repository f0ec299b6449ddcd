/- Texts of the proof, part 2 of 5. -/
import Derived.Test.YticdfbhbbapbdaaDoorB1
import Derived.Deep.LoopGhost
import Derived.Test.YticdfbhbbapbdaaDoorChecked
import Derived.WalkKit
import Derived.Laws.StructEq
import Derived.Laws.IdiomStrings
import Derived.Lib.Strings
import Derived.Shelf.Strings.Builder1
import Derived.Shelf.Small.Wraps
import Derived.Shelf.Strings.BuilderF
import Derived.Shelf.Strings.BuilderK
import Derived.Shelf.Strconv.Itoa0
import Derived.Shelf.Strconv.Itoa1
import Derived.Shelf.LaysM
import Derived.Shelf.Strconv.Itoa2
import Derived.Shelf.Strconv.Itoa3
import Derived.Shelf.Strings.Search1
import Derived.Shelf.Strings.Search2
import Derived.Shelf.Strings.Search3
import Derived.Shelf.Strings.Cut
import Derived.Shelf.Strings.Count
import Derived.Shelf.Strings.Shaped
import Derived.Shelf.Strings.Prefix
import Derived.Shelf.Strings.Split
import Derived.Shelf.Strings.SplitShaped
import Derived.Shelf.Unicode.DecodeSlow
import Derived.Test.YticdfbhbbapbdaaDoorProg
import Derived.RegionTactic
import Derived.BigRegion
import Derived.Deep.RegionHeld3
/- An abstract machine (3): what a state may be weakened to, code, loops, functions. -/
namespace Go.Proofs.YticdfbhbbapbdaaDoor.Am
open Go.RowKit

def mwk (η η' : Nat → Ent) (m : MM) : MM := ⟨fun i => match (η i).blk, (η' i).blk with | some _, some _ => m i | _, _ => none, m.O⟩
def WV (N : Nat) (η η' : Nat → Ent) (x x' : AV) : Prop := ∀ w m v, Mem N w η m → RV w (shp η) m x v → RV w (shp η') (mwk η η' m) x' v

section
variable {N : Nat} {η η' : Nat → Ent}
theorem mwk_some {m : MM} {i b : Nat} (h : mwk η η' m i = some b) : (η i).blk ≠ none ∧ (η' i).blk ≠ none ∧ m i = some b := by
  have h' : (match (η i).blk, (η' i).blk with | some _, some _ => m i | _, _ => none) = some b := h
  split at h'
  · rename_i h1 h2
    exact ⟨by rw [h1]; simp, by rw [h2]; simp, h'⟩
  · cases h'
theorem mwk_kept {m : MM} {i : Nat} {e e' : Ent} {B B' : Blk} (h1 : η i = e) (h2 : η' i = e') (hB : e.blk = some B) (hB' : e'.blk = some B') : mwk η η' m i = m i := by
  show (match (η i).blk, (η' i).blk with | some _, some _ => m i | _, _ => none) = m i
  rw [h1, h2, hB, hB']
theorem mwk_none {m : MM} {i : Nat} (h : (η i).blk = none) : mwk η η' m i = none := by
  show (match (η i).blk, (η' i).blk with | some _, some _ => m i | _, _ => none) = none
  rw [h]
theorem owned_wk {m : MM} {b : Nat} (h : Owned (shp η') (mwk η η' m) b) : Owned (shp η) m b := by
  rcases h with h | ⟨i, _, h2⟩
  · exact .inl h
  · obtain ⟨h3, _, h5⟩ := mwk_some h2
    exact .inr ⟨i, blk_live.2 h3, h5⟩
theorem rv_fr {w : World} {vs vs' : Shp} {m m' : MM} {x : AV} (hx : Fr x) (ho : ∀ b, Owned vs' m' b → Owned vs m b) : ∀ {v : Value}, RV w vs m x v → RV w vs' m' x v := by
  induction hx with
  | c u => intro v h; rw [rv_c h]; exact .c u
  | sl hl ih =>
    intro v h
    obtain ⟨A, cap, b, off, f, rfl, hA, hc, hm, hlen, hcell, hr, hfr⟩ := rv_sl h
    refine .sl (b := b) (off := off) (f := f) (fun hne => ?_) hc hm hlen hcell (fun k j e y h1 h2 => ih e (List.mem_of_getElem? h1) y (List.mem_of_getElem? h2) (hr k j e y h1 h2)) hfr
    obtain ⟨a1, a2, a3⟩ := hA hne
    exact ⟨a1, fun h => a2 (ho _ h), a3⟩
  | pim hl ih =>
    intro v h
    obtain ⟨b, off, f, rfl, hno, hlt, hcell, hr⟩ := rv_pim h
    exact .pim (fun h => hno (ho _ h)) hlt hcell (fun j y h1 => ih y (List.mem_of_getElem? h1) (hr j y h1))
  | agg hl ih =>
    intro v h
    obtain ⟨us, rfl, hlen, hr⟩ := rv_agg h
    exact .agg hlen (fun j y u h1 h2 => ih y (List.mem_of_getElem? h1) (hr j y u h1 h2))
  | tup hl ih =>
    intro v h
    obtain ⟨us, rfl, hlen, hr⟩ := rv_tup h
    exact .tup hlen (fun j y u h1 h2 => ih y (List.mem_of_getElem? h1) (hr j y u h1 h2))
  | clo h1 h2 i1 i2 =>
    intro v h
    cases h with
    | clo a1 a2 a3 a4 => exact .clo a1 (fun j y u q1 q2 => i1 y (List.mem_of_getElem? q1) (a2 j y u q1 q2)) a3 (fun j y u q1 q2 => i2 y (List.mem_of_getElem? q1) (a4 j y u q1 q2))
  | ifc h1 ih =>
    intro v h
    cases h with
    | ifc a1 => exact .ifc (ih a1)
theorem wv_dead (x : AV) : WV N η η' x .dead := fun _ _ v _ _ => .dead v
theorem wv_fr {x : AV} (h : Fr x) : WV N η η' x x := fun _ _ _ _ hv => rv_fr h (fun _ => owned_wk) hv
theorem wv_sl {sz : Nat} {l : List (List AV)} : WV N η η' (.sl sz l) (.sl sz l) := fun _ _ _ _ hv => by
  have := hv
  obtain ⟨_, _, _, _, _, _, _, _, _, _, _, _, hfr⟩ := rv_sl this
  exact rv_fr (.sl hfr) (fun _ => owned_wk) hv
theorem wv_own {i ver ver' k len : Nat} {B B' : Blk} (h1 : η i = ⟨ver, some B⟩) (h2 : η' i = ⟨ver', some B'⟩) (hs : B.sz = B'.sz) : WV N η η' (.own i ver k len) (.own i ver' k len) := by
  intro w m v hm hv
  have hs' : (shp η') i = (ver', some B.sz) := by simp [shp, h2, hs]
  have hk := mwk_kept (m := m) h1 h2 rfl rfl
  rcases rv_own hv h1 with ⟨rfl, rfl, e, rfl⟩ | ⟨k', A, rfl, rfl, rfl⟩ | ⟨b, cap, ty, nn, e1, e2, e3, e4, e5, rfl⟩
  · exact .ownN hs' (by rw [hk, e])
  · exact .ownZ hs'
  · exact .own hs' (by rw [hk, e1]) e2 e3 e4 e5
theorem wv_ptr {i ver ver' k j : Nat} {B B' : Blk} (h1 : η i = ⟨ver, some B⟩) (h2 : η' i = ⟨ver', some B'⟩) (hs : B.sz = B'.sz) : WV N η η' (.ptr i ver k j) (.ptr i ver' k j) := by
  intro w m v hm hv
  obtain ⟨b, e1, rfl⟩ := rv_ptr hv h1
  exact .ptr (by simp [shp, h2, hs]) (by rw [mwk_kept (m := m) h1 h2 rfl rfl, e1])
theorem wv_frz {i ver k len : Nat} {B : Blk} (h1 : η i = ⟨ver, some B⟩) (h2 : (η' i).blk = none) (hkl : k + len ≤ B.els.length) (hfr : FrL B.els) (hmax : len ≤ 140737488355328) : WV N η η' (.own i ver k len) (.sl B.sz ((B.els.drop k).take len)) := by
  intro w m v hm hv
  have hll : ((B.els.drop k).take len).length = len := by simp; omega
  have hfr' : FrL ((B.els.drop k).take len) := fun e he => hfr e (List.mem_of_mem_drop (List.mem_of_mem_take he))
  have nil : ∀ A, RV w (shp η') (mwk η η' m) (.sl B.sz ([] : List (List AV))) (.slice A 0 0) := fun A =>
    RV.sl (l := []) (b := 0) (off := 0) (f := fun _ _ => undef) (fun h => absurd rfl h) (Nat.le_refl _) (by simp) (fun k e h => by simp at h) (fun k j e x h => by simp at h) (fun k j e x h => by simp at h) (fun e he => by cases he)
  rcases rv_own hv h1 with ⟨rfl, rfl, e, rfl⟩ | ⟨k', A, rfl, rfl, rfl⟩ | ⟨b, cap, ty, nn, e1, e2, e3, e4, e5, rfl⟩
  · simpa using nil none
  · simpa using nil A
  · have hok := hm.ok i B (by rw [h1])
    rw [e1] at hok
    obtain ⟨arr, a1, a2, a3⟩ := hok
    have hlive : (η i).blk ≠ none := by rw [h1]; simp
    have hget : ∀ q e, ((B.els.drop k).take len)[q]? = some e → B.els[k + q]? = some e := fun q e he => by
      rw [List.getElem?_take] at he
      split at he
      · rw [List.getElem?_drop] at he; exact he
      · cases he
    have hcell : ∀ (q j : Nat) (e : List AV) (x : AV), ((B.els.drop k).take len)[q]? = some e → e[j]? = some x → ∃ u, arr.getD ((k + q) * B.sz + j) undef = u ∧ arr[(k + q) * B.sz + j]? = some u ∧ u.oneCell' = true ∧ RV w (shp η) m x u := fun q j e x he hj => by
      obtain ⟨u, u1, u2, u3⟩ := (a3 _ e (hget q e he)).2 j x hj
      exact ⟨u, by simp [Array.getD_eq_getD_getElem?, u1], u1, u2, u3⟩
    have := RV.sl (w := w) (vs := shp η') (m := mwk η η' m) (sz := B.sz) (l := (B.els.drop k).take len) (A := some ⟨b, k * B.sz, none⟩) (cap := cap) (b := b) (off := k * B.sz) (f := fun q j => arr.getD ((k + q) * B.sz + j) undef)
      (fun _ => ⟨rfl, ?_, lt_of_block a1⟩) (by omega) (by omega) (fun q e he => (a3 _ e (hget q e he)).1) (fun q j e x he hj => ?_) (fun q j e x he hj => ?_) hfr'
    · rw [hll] at this
      exact this
    · rintro (h | ⟨i', h3, h4⟩)
      · exact hm.sep i b hlive e1 h
      · obtain ⟨h5, h6, h7⟩ := mwk_some h4
        have := hm.inj i' i b h5 hlive h7 e1
        subst this
        exact h6 h2
    · obtain ⟨u, q1, q2, q3, _⟩ := hcell q j e x he hj
      refine ⟨?_, by rw [q1]; exact q3⟩
      rw [q1, show k * B.sz + (q * B.sz + j) = (k + q) * B.sz + j from by rw [Nat.add_mul]; omega]
      simp [World.cell?, a1, q2]
    · obtain ⟨u, q1, _, _, q4⟩ := hcell q j e x he hj
      rw [q1]
      exact rv_fr (hfr' e (List.mem_of_getElem? he) x (List.mem_of_getElem? hj)) (fun _ => owned_wk) q4
theorem wv_thaw {i ver' cc : Nat} {B' : Blk} (h1 : (η i).blk = none) (h2 : η' i = ⟨ver', some B'⟩) (hc : cc = 0) : WV N η η' (.c (.slice none 0 cc)) (.own i ver' 0 0) := by
  intro w m v hm hv
  subst hc
  rw [rv_c hv]
  exact .ownN (sz := B'.sz) (by simp [shp, h2]) (mwk_none h1)
theorem wv_nil {sz cc : Nat} : WV N η η' (.c (.slice none 0 cc)) (.sl sz []) := by
  intro w m v hm hv
  rw [rv_c hv]
  exact RV.sl (l := []) (b := 0) (off := 0) (f := fun _ _ => undef) (fun h => absurd rfl h) (Nat.zero_le _) (by simp) (fun k e h => by simp at h) (fun k j e x h => by simp at h) (fun k j e x h => by simp at h) (fun e he => by cases he)
theorem wv_agg {cs cs' : List AV} (hl : cs.length = cs'.length) (h : ∀ (j : Nat) (x x' : AV), cs[j]? = some x → cs'[j]? = some x' → WV N η η' x x') : WV N η η' (.agg cs) (.agg cs') := by
  intro w m v hm hv
  obtain ⟨us, rfl, hlen, hr⟩ := rv_agg hv
  refine .agg (by omega) (fun j x' u h1 h2 => ?_)
  have hlt : j < cs.length := by rw [hl]; exact (List.getElem?_eq_some_iff.1 h1).1
  exact h j _ x' (List.getElem?_eq_getElem hlt) h1 w m u hm (hr j _ u (List.getElem?_eq_getElem hlt) h2)
theorem wv_tup {cs cs' : List AV} (hl : cs.length = cs'.length) (h : ∀ (j : Nat) (x x' : AV), cs[j]? = some x → cs'[j]? = some x' → WV N η η' x x') : WV N η η' (.tup cs) (.tup cs') := by
  intro w m v hm hv
  obtain ⟨us, rfl, hlen, hr⟩ := rv_tup hv
  refine .tup (by omega) (fun j x' u h1 h2 => ?_)
  have hlt : j < cs.length := by rw [hl]; exact (List.getElem?_eq_some_iff.1 h1).1
  exact h j _ x' (List.getElem?_eq_getElem hlt) h1 w m u hm (hr j _ u (List.getElem?_eq_getElem hlt) h2)

theorem rv_clo {w : World} {vs : Shp} {m : MM} {f : Fn} {cs ds : List AV} {v : Value} (h : RV w vs m (.clo f cs ds) v) : ∃ us us' : Array Value, v = .func f us us' ∧ cs.length = us.size ∧ (∀ (j : Nat) (x : AV) (u : Value), cs[j]? = some x → us[j]? = some u → RV w vs m x u) ∧ ds.length = us'.size ∧ (∀ (j : Nat) (x : AV) (u : Value), ds[j]? = some x → us'[j]? = some u → RV w vs m x u) := by
  cases h with
  | clo h1 h2 h3 h4 => exact ⟨_, _, rfl, h1, h2, h3, h4⟩
theorem wv_clo {f : Fn} {cs cs' ds ds' : List AV} (hl : cs.length = cs'.length) (h : ∀ (j : Nat) (x x' : AV), cs[j]? = some x → cs'[j]? = some x' → WV N η η' x x') (hl2 : ds.length = ds'.length) (h2 : ∀ (j : Nat) (x x' : AV), ds[j]? = some x → ds'[j]? = some x' → WV N η η' x x') : WV N η η' (.clo f cs ds) (.clo f cs' ds') := by
  intro w m v hm hv
  obtain ⟨us, us', rfl, l1, r1, l2, r2⟩ := rv_clo hv
  refine .clo (by omega) (fun j x' u h3 h4 => ?_) (by omega) (fun j x' u h3 h4 => ?_)
  · have hlt : j < cs.length := by rw [hl]; exact (List.getElem?_eq_some_iff.1 h3).1
    exact h j _ x' (List.getElem?_eq_getElem hlt) h3 w m u hm (r1 j _ u (List.getElem?_eq_getElem hlt) h4)
  · have hlt : j < ds.length := by rw [hl2]; exact (List.getElem?_eq_some_iff.1 h3).1
    exact h2 j _ x' (List.getElem?_eq_getElem hlt) h3 w m u hm (r2 j _ u (List.getElem?_eq_getElem hlt) h4)
theorem wv_frz2 {i ver k len : Nat} {B : Blk} {els' : List (List AV)} (h1 : η i = ⟨ver, some B⟩) (h2 : (η' i).blk = none) (hl : els'.length = B.els.length) (hw : ∀ (k : Nat) (e e' : List AV), B.els[k]? = some e → els'[k]? = some e' → e'.length = e.length ∧ ∀ (j : Nat) (x x' : AV), e[j]? = some x → e'[j]? = some x' → WV N η η' x x')
    (hkl : k + len ≤ els'.length) (hfr : FrL els') (hmax : len ≤ 140737488355328) : WV N η η' (.own i ver k len) (.sl B.sz ((els'.drop k).take len)) := by
  intro w m v hm hv
  have hll : ((els'.drop k).take len).length = len := by simp; omega
  have hfr' : FrL ((els'.drop k).take len) := fun e he => hfr e (List.mem_of_mem_drop (List.mem_of_mem_take he))
  have nil : ∀ A, RV w (shp η') (mwk η η' m) (.sl B.sz ([] : List (List AV))) (.slice A 0 0) := fun A =>
    RV.sl (l := []) (b := 0) (off := 0) (f := fun _ _ => undef) (fun h => absurd rfl h) (Nat.le_refl _) (by simp) (fun k e h => by simp at h) (fun k j e x h => by simp at h) (fun k j e x h => by simp at h) (fun e he => by cases he)
  rcases rv_own hv h1 with ⟨rfl, rfl, e, rfl⟩ | ⟨k', A, rfl, rfl, rfl⟩ | ⟨b, cap, ty, nn, e1, e2, e3, e4, e5, rfl⟩
  · simpa using nil none
  · simpa using nil A
  · have hok := hm.ok i B (by rw [h1])
    rw [e1] at hok
    obtain ⟨arr, a1, a2, a3⟩ := hok
    have hlive : (η i).blk ≠ none := by rw [h1]; simp
    have hget : ∀ q e, ((els'.drop k).take len)[q]? = some e → els'[k + q]? = some e := fun q e he => by
      rw [List.getElem?_take] at he
      split at he
      · rw [List.getElem?_drop] at he; exact he
      · cases he
    have hold : ∀ (q : Nat) (e' : List AV), els'[q]? = some e' → ∃ e : List AV, B.els[q]? = some e ∧ e'.length = e.length ∧ ∀ (j : Nat) (x x' : AV), e[j]? = some x → e'[j]? = some x' → WV N η η' x x' := fun q e' he' => by
      have hlt : q < B.els.length := by rw [← hl]; exact (List.getElem?_eq_some_iff.1 he').1
      exact ⟨_, List.getElem?_eq_getElem hlt, hw q _ e' (List.getElem?_eq_getElem hlt) he'⟩
    have hcell : ∀ (q j : Nat) (e' : List AV) (x' : AV), ((els'.drop k).take len)[q]? = some e' → e'[j]? = some x' → ∃ u, arr.getD ((k + q) * B.sz + j) undef = u ∧ arr[(k + q) * B.sz + j]? = some u ∧ u.oneCell' = true ∧ RV w (shp η') (mwk η η' m) x' u := fun q j e' x' he hj => by
      obtain ⟨e, q1, q2, q3⟩ := hold _ e' (hget q e' he)
      have hlt : j < e.length := by rw [← q2]; exact (List.getElem?_eq_some_iff.1 hj).1
      obtain ⟨u, u1, u2, u3⟩ := (a3 _ e q1).2 j _ (List.getElem?_eq_getElem hlt)
      exact ⟨u, by simp [Array.getD_eq_getD_getElem?, u1], u1, u2, q3 j _ x' (List.getElem?_eq_getElem hlt) hj w m u hm u3⟩
    have := RV.sl (w := w) (vs := shp η') (m := mwk η η' m) (sz := B.sz) (l := (els'.drop k).take len) (A := some ⟨b, k * B.sz, none⟩) (cap := cap) (b := b) (off := k * B.sz) (f := fun q j => arr.getD ((k + q) * B.sz + j) undef)
      (fun _ => ⟨rfl, ?_, lt_of_block a1⟩) (by omega) (by omega) (fun q e' he => ?_) (fun q j e x he hj => ?_) (fun q j e x he hj => ?_) hfr'
    · rw [hll] at this
      exact this
    · rintro (h | ⟨i', h3, h4⟩)
      · exact hm.sep i b hlive e1 h
      · obtain ⟨h5, h6, h7⟩ := mwk_some h4
        have := hm.inj i' i b h5 hlive h7 e1
        subst this
        exact h6 h2
    · obtain ⟨e, q1, q2, _⟩ := hold _ e' (hget q e' he)
      rw [q2]
      exact (a3 _ e q1).1
    · obtain ⟨u, q1, q2, q3, _⟩ := hcell q j e x he hj
      refine ⟨?_, by rw [q1]; exact q3⟩
      rw [q1, show k * B.sz + (q * B.sz + j) = (k + q) * B.sz + j from by rw [Nat.add_mul]; omega]
      simp [World.cell?, a1, q2]
    · obtain ⟨u, q1, _, _, q4⟩ := hcell q j e x he hj
      rw [q1]
      exact q4
theorem wv_pfrz {i ver k j : Nat} {B : Blk} {e e' : List AV} (h1 : η i = ⟨ver, some B⟩) (h2 : (η' i).blk = none) (he : B.els[k]? = some e) (hl : e'.length = e.length) (hw : ∀ (j : Nat) (x x' : AV), e[j]? = some x → e'[j]? = some x' → WV N η η' x x') : WV N η η' (.ptr i ver k j) (.pim e' j) := by
  intro w m v hm hv
  obtain ⟨b, e1, rfl⟩ := rv_ptr hv h1
  have hok := hm.ok i B (by rw [h1])
  rw [e1] at hok
  obtain ⟨arr, a1, a2, a3⟩ := hok
  have hlive : (η i).blk ≠ none := by rw [h1]; simp
  have hcell : ∀ (q : Nat) (x' : AV), e'[q]? = some x' → ∃ u, arr.getD (k * B.sz + q) undef = u ∧ arr[k * B.sz + q]? = some u ∧ RV w (shp η') (mwk η η' m) x' u := fun q x' hq => by
    have hlt : q < e.length := by rw [← hl]; exact (List.getElem?_eq_some_iff.1 hq).1
    obtain ⟨u, u1, _, u3⟩ := (a3 _ e he).2 q _ (List.getElem?_eq_getElem hlt)
    exact ⟨u, by simp [Array.getD_eq_getD_getElem?, u1], u1, hw q _ x' (List.getElem?_eq_getElem hlt) hq w m u hm u3⟩
  refine .pim (b := b) (off := k * B.sz) (f := fun q => arr.getD (k * B.sz + q) undef) ?_ (lt_of_block a1) (fun q x hq => ?_) (fun q x hq => ?_)
  · rintro (h | ⟨i', h3, h4⟩)
    · exact hm.sep i b hlive e1 h
    · obtain ⟨h5, h6, h7⟩ := mwk_some h4
      have := hm.inj i' i b h5 hlive h7 e1
      subst this
      exact h6 h2
  · obtain ⟨u, q1, q2, _⟩ := hcell q x hq
    rw [q1]
    simp [World.cell?, a1, q2]
  · obtain ⟨u, q1, _, q3⟩ := hcell q x hq
    rw [q1]
    exact q3
/-- a value whose own memory becomes immutable (the blocks that are no more) -/
inductive BW (η η' : Nat → Ent) : AV → AV → Prop
  | fr {x : AV} : Fr x → BW η η' x x
  | sl {sz : Nat} {l : List (List AV)} : BW η η' (.sl sz l) (.sl sz l)
  | nil {sz cc : Nat} : BW η η' (.c (.slice none 0 cc)) (.sl sz [])
  | own {i ver k len sz : Nat} {B : Blk} {els' l : List (List AV)} : η i = ⟨ver, some B⟩ → (η' i).blk = none → B.sz = sz → els'.length = B.els.length →
      (∀ (k : Nat) (e e' : List AV), B.els[k]? = some e → els'[k]? = some e' → e'.length = e.length) → (∀ (k : Nat) (e e' : List AV), B.els[k]? = some e → els'[k]? = some e' → ∀ (j : Nat) (x x' : AV), e[j]? = some x → e'[j]? = some x' → BW η η' x x') →
      k + len ≤ els'.length → FrL els' → len ≤ 140737488355328 → l = (els'.drop k).take len → BW η η' (.own i ver k len) (.sl sz l)
  | ptr {i ver k j : Nat} {B : Blk} {e e' : List AV} : η i = ⟨ver, some B⟩ → (η' i).blk = none → B.els[k]? = some e → e'.length = e.length → (∀ (j : Nat) (x x' : AV), e[j]? = some x → e'[j]? = some x' → BW η η' x x') → BW η η' (.ptr i ver k j) (.pim e' j)
  | agg {cs cs' : List AV} : cs.length = cs'.length → (∀ (j : Nat) (x x' : AV), cs[j]? = some x → cs'[j]? = some x' → BW η η' x x') → BW η η' (.agg cs) (.agg cs')
  | clo {f : Fn} {cs cs' ds ds' : List AV} : cs.length = cs'.length → (∀ (j : Nat) (x x' : AV), cs[j]? = some x → cs'[j]? = some x' → BW η η' x x') → ds.length = ds'.length → (∀ (j : Nat) (x x' : AV), ds[j]? = some x → ds'[j]? = some x' → BW η η' x x') → BW η η' (.clo f cs ds) (.clo f cs' ds')
theorem BW.wv {x x' : AV} (h : BW η η' x x') : WV N η η' x x' := by
  induction h with
  | fr h => exact wv_fr h
  | sl => exact wv_sl
  | nil => intro w m v hm hv; rw [rv_c hv]; exact RV.sl (l := []) (b := 0) (off := 0) (f := fun _ _ => undef) (fun h => absurd rfl h) (Nat.zero_le _) (by simp) (fun k e h => by simp at h) (fun k j e x h => by simp at h) (fun k j e x h => by simp at h) (fun e he => by cases he)
  | own h1 h2 hs hl hl2 _ hkl hfr hmax he ih => subst hs he; exact wv_frz2 h1 h2 hl (fun k e e' q1 q2 => ⟨hl2 k e e' q1 q2, ih k e e' q1 q2⟩) hkl hfr hmax
  | ptr h1 h2 he hl _ ih => exact wv_pfrz h1 h2 he hl ih
  | agg hl _ ih => exact wv_agg hl ih
  | clo hl _ hl2 _ ih ih2 => exact wv_clo hl ih hl2 ih2
/-- what the elements of a row become -/
inductive RowK (η η' : Nat → Ent) : List (List AV) → List (List AV) → Prop
  | same {els els' : List (List AV)} : els = els' → FrL els → RowK η η' els els'
  | part {els els' : List (List AV)} : els'.length = els.length → (∀ (k : Nat) (e e' : List AV), els[k]? = some e → els'[k]? = some e' → e'.length = e.length ∧ ∀ (j : Nat) (x x' : AV), e[j]? = some x → e'[j]? = some x' → BW η η' x x') → RowK η η' els els'

/-- an entry may be weakened -/
def WE (N : Nat) (η η' : Nat → Ent) (i : Nat) : Prop :=
  ∀ B', (η' i).blk = some B' → (∃ B, (η i).blk = some B ∧ B'.ty = B.ty ∧ B'.sz = B.sz ∧ B'.box = B.box ∧ B'.els.length = B.els.length ∧ ∀ (k : Nat) (e e' : List AV), B.els[k]? = some e → B'.els[k]? = some e' → e'.length = e.length ∧ ∀ (j : Nat) (x x' : AV), e[j]? = some x → e'[j]? = some x' → WV N η η' x x') ∨
    ((η i).blk = none ∧ B'.els = [] ∧ B'.box = false)
theorem rep_wk {C : Cx} {n : Nat} {w0 : World} {X : XX} {τ τ' : Nat → AV} {η η' : Nat → Ent} {m : MM} {a : Act} {w : World} (h : Rep C n w0 X τ η m a w) (ht : ∀ t, WV C.N η η' (τ t) (τ' t)) (he : ∀ i, WE C.N η η' i) : Rep C n w0 X τ' η' (mwk η η' m) a w := by
  refine ⟨fun t => ht t w m _ h.mem (h.tm t), h.sz, h.df, ⟨fun i B' hB' => ?_, fun i i' b h1 h2 h3 h4 => ?_, fun i b h1 h2 => ?_, fun i b h1 h2 => ?_, h.mem.olt, h.mem.big⟩, h.kin, h.oo, fun i b h1 h2 => ?_, h.gl⟩
  · rcases he i B' hB' with ⟨B, hB, e1, e2, e0, e3, e4⟩ | ⟨e1, e2, e3⟩
    · have hk := mwk_kept (m := m) (i := i) rfl rfl hB hB'
      rw [hk]
      have hok := h.mem.ok i B hB
      cases hmi : m i with
      | none =>
        rw [hmi] at hok
        have : B.els = [] := hok.1
        have hl : B'.els = [] := List.length_eq_zero_iff.1 (by rw [e3, this]; rfl)
        exact ⟨hl, by rw [e0]; exact hok.2⟩
      | some b =>
        rw [hmi] at hok
        obtain ⟨arr, a1, a2, a3⟩ := hok
        refine ⟨arr, by rw [e1]; exact a1, by rw [e3, e2]; exact a2, fun k e' he' => ?_⟩
        have hlt : k < B.els.length := by rw [← e3]; exact (List.getElem?_eq_some_iff.1 he').1
        have hge := List.getElem?_eq_getElem hlt
        obtain ⟨l1, l2⟩ := e4 k _ e' hge he'
        obtain ⟨q1, q2⟩ := a3 k _ hge
        refine ⟨by rw [l1, q1, e2], fun j x' hx' => ?_⟩
        have hj : j < (B.els[k]).length := by rw [← l1]; exact (List.getElem?_eq_some_iff.1 hx').1
        have hgj := List.getElem?_eq_getElem hj
        obtain ⟨u, u1, u2, u3⟩ := q2 j _ hgj
        exact ⟨u, by rw [e2]; exact u1, u2, l2 j _ x' hgj hx' w m u h.mem u3⟩
    · rw [mwk_none e1]
      exact ⟨e2, e3⟩
  · obtain ⟨a1, _, a3⟩ := mwk_some h3
    obtain ⟨b1, _, b3⟩ := mwk_some h4
    exact h.mem.inj i i' b a1 b1 a3 b3
  · obtain ⟨a1, _, a3⟩ := mwk_some h2
    exact h.mem.low i b a1 a3
  · obtain ⟨a1, _, a3⟩ := mwk_some h2
    exact h.mem.sep i b a1 a3
  · obtain ⟨a1, _, a3⟩ := mwk_some h2
    exact h.own i b a1 a3
end

structure St where
  tm : List AV
  hp : List Ent

/-- what is left to show when a value is weakened -/
def wkV0 (hp hp' : List Ent) (x x' : AV) (K : Prop) : Prop :=
  match x' with
  | .dead => K
  | .own i' ver' k' len' => match x with
    | .own i ver k len => ifK (i.beq i') (blkK hp i ver (fun B => blkK hp' i' ver' (fun B' => ifK (B.sz.beq B'.sz) ((k = k' ∧ len = len') ∧ K))))
    | .c (.slice none 0 0) => getK hp i' (fun e => match e.blk with
      | none => blkK hp' i' ver' (fun _ => (k' = 0 ∧ len' = 0) ∧ K)
      | some _ => False)
    | _ => False
  | .ptr i' ver' k' j' => match x with
    | .ptr i ver k j => ifK (i.beq i') (blkK hp i ver (fun B => blkK hp' i' ver' (fun B' => ifK (B.sz.beq B'.sz) ((k = k' ∧ j = j') ∧ K))))
    | _ => False
  | .sl sz' l' => match x with
    | .own i ver k len => BW (hpF hp) (hpF hp') (.own i ver k len) (.sl sz' l') ∧ K
    | .sl sz l => (sz = sz' ∧ l = l') ∧ K
    | .c (.slice none 0 0) => (l' = []) ∧ K
    | _ => False
  | .c v' => (x = .c v') ∧ K
  | x' => BW (hpF hp) (hpF hp') x x' ∧ K
def wkT0 (hp hp' : List Ent) : List AV → List AV → Prop → Prop
  | [], [], K => K
  | x :: r, x' :: r', K => wkV0 hp hp' x x' (wkT0 hp hp' r r' K)
  | _, _, _ => False
def wkV (hp hp' : List Ent) (x x' : AV) (K : Prop) : Prop :=
  match x' with
  | .agg cs' => match x with
    | .agg cs => wkT0 hp hp' cs cs' K
    | _ => False
  | x' => wkV0 hp hp' x x' K
def wkT (hp hp' : List Ent) : List AV → List AV → Prop → Prop
  | [], [], K => K
  | x :: r, x' :: r', K => wkV hp hp' x x' (wkT hp hp' r r' K)
  | _, _, _ => False
def wkE (hp hp' : List Ent) (e e' : Ent) (K : Prop) : Prop :=
  match e'.blk with
  | none => K
  | some B' => match e.blk with
    | none => ifK (!B'.box) ((B'.els = []) ∧ K)
    | some B => ifK (B.ty.beq B'.ty && B.sz.beq B'.sz) (match B.box, B'.box, B.els, B'.els with
      | true, true, [c], [c'] => wkT hp hp' c c' K
      | false, false, els, els' => RowK (hpF hp) (hpF hp') els els' ∧ K
      | _, _, _, _ => False)
def wkH (hp hp' : List Ent) : List Ent → List Ent → Prop → Prop
  | _, [], K => K
  | e :: r, e' :: r', K => wkE hp hp' e e' (wkH hp hp' r r' K)
  | _, _, _ => False
def leK (s s' : St) (K : Prop) : Prop := wkT s.hp s'.hp s.tm s'.tm (wkH s.hp s'.hp s.hp s'.hp K)

section
variable {N : Nat}
theorem wkV0_ok {hp hp' : List Ent} {x x' : AV} {K : Prop} (h : wkV0 hp hp' x x' K) : WV N (hpF hp) (hpF hp') x x' ∧ K := by
  unfold wkV0 at h
  split at h
  · exact ⟨wv_dead _, h⟩
  · split at h
    · obtain ⟨h1, h⟩ := ifK_ok h
      obtain ⟨B, hB, h⟩ := blkK_ok h
      obtain ⟨B', hB', h⟩ := blkK_ok h
      obtain ⟨h2, ⟨rfl, rfl⟩, hK⟩ := ifK_ok h
      have := Nat.eq_of_beq_eq_true h1
      subst this
      exact ⟨wv_own hB hB' (Nat.eq_of_beq_eq_true h2), hK⟩
    · obtain ⟨e, he, h⟩ := getK_ok h
      split at h
      · rename_i hn
        obtain ⟨B', hB', ⟨rfl, rfl⟩, hK⟩ := blkK_ok h
        exact ⟨wv_thaw (by rw [hp_get he]; exact hn) hB' rfl, hK⟩
      · exact h.elim
    · exact h.elim
  · split at h
    · obtain ⟨h1, h⟩ := ifK_ok h
      obtain ⟨B, hB, h⟩ := blkK_ok h
      obtain ⟨B', hB', h⟩ := blkK_ok h
      obtain ⟨h2, ⟨rfl, rfl⟩, hK⟩ := ifK_ok h
      have := Nat.eq_of_beq_eq_true h1
      subst this
      exact ⟨wv_ptr hB hB' (Nat.eq_of_beq_eq_true h2), hK⟩
    · exact h.elim
  · split at h
    · exact ⟨h.1.wv, h.2⟩
    · obtain ⟨⟨rfl, rfl⟩, h⟩ := h
      exact ⟨wv_sl, h⟩
    · obtain ⟨rfl, h⟩ := h
      exact ⟨wv_nil, h⟩
    · exact h.elim
  · obtain ⟨rfl, h⟩ := h
    exact ⟨wv_fr (.c _), h⟩
  · exact ⟨h.1.wv, h.2⟩
theorem wkT0_ok {hp hp' : List Ent} : ∀ {l l' : List AV} {K : Prop}, wkT0 hp hp' l l' K → l.length = l'.length ∧ (∀ (j : Nat) (x x' : AV), l[j]? = some x → l'[j]? = some x' → WV N (hpF hp) (hpF hp') x x') ∧ K
  | [], [], K, h => ⟨rfl, fun j x x' hx => by simp at hx, h⟩
  | x :: r, x' :: r', K, h => by
    obtain ⟨h1, h2⟩ := wkV0_ok (N := N) h
    obtain ⟨h3, h4, h5⟩ := wkT0_ok (l := r) (l' := r') h2
    refine ⟨by simp [h3], fun j y y' hy hy' => ?_, h5⟩
    cases j with
    | zero => simp at hy hy'; subst hy hy'; exact h1
    | succ j => exact h4 j y y' (by simpa using hy) (by simpa using hy')
  | [], _ :: _, _, h => h.elim
  | _ :: _, [], _, h => h.elim
theorem wkV_ok {hp hp' : List Ent} {x x' : AV} {K : Prop} (h : wkV hp hp' x x' K) : WV N (hpF hp) (hpF hp') x x' ∧ K := by
  unfold wkV at h
  split at h
  · split at h
    · obtain ⟨h1, h2, h3⟩ := wkT0_ok (N := N) h
      exact ⟨wv_agg h1 h2, h3⟩
    · exact h.elim
  · exact wkV0_ok h
theorem wkT_ok {hp hp' : List Ent} : ∀ {l l' : List AV} {K : Prop}, wkT hp hp' l l' K → l.length = l'.length ∧ (∀ (j : Nat) (x x' : AV), l[j]? = some x → l'[j]? = some x' → WV N (hpF hp) (hpF hp') x x') ∧ K
  | [], [], K, h => ⟨rfl, fun j x x' hx => by simp at hx, h⟩
  | x :: r, x' :: r', K, h => by
    obtain ⟨h1, h2⟩ := wkV_ok (N := N) h
    obtain ⟨h3, h4, h5⟩ := wkT_ok (l := r) (l' := r') h2
    refine ⟨by simp [h3], fun j y y' hy hy' => ?_, h5⟩
    cases j with
    | zero => simp at hy hy'; subst hy hy'; exact h1
    | succ j => exact h4 j y y' (by simpa using hy) (by simpa using hy')
  | [], _ :: _, _, h => h.elim
  | _ :: _, [], _, h => h.elim
theorem wkE_ok {hp hp' : List Ent} {i : Nat} {e e' : Ent} {K : Prop} (he : hpF hp i = e) (he' : hpF hp' i = e') (h : wkE hp hp' e e' K) : WE N (hpF hp) (hpF hp') i ∧ K := by
  unfold wkE at h
  split at h
  · rename_i hn
    exact ⟨fun B' hB' => (by rw [he', hn] at hB'; cases hB'), h⟩
  · rename_i B' hB'
    split at h
    · rename_i hn
      obtain ⟨h1, h2, h⟩ := ifK_ok h
      refine ⟨fun B'' hB'' => .inr ⟨by rw [he, hn], ?_, ?_⟩, h⟩
      · rw [he', hB'] at hB''; injection hB'' with hB''; rw [← hB'']; exact h2
      · rw [he', hB'] at hB''; injection hB'' with hB''; rw [← hB'']; simpa using h1
    · rename_i B hB
      obtain ⟨h1, hh⟩ := ifK_ok h
      clear h
      rw [Bool.and_eq_true] at h1
      have e1 := Nat.eq_of_beq_eq_true h1.1
      have e2 := Nat.eq_of_beq_eq_true h1.2
      clear h1
      obtain ⟨ty, sz, box, els⟩ := B
      obtain ⟨ty', sz', box', els'⟩ := B'
      simp only at e1 e2
      subst e1 e2
      split at hh
      · rename_i c c' b1 b2 l1 l2
        simp only at b1 b2 l1 l2
        subst b1 b2 l1 l2
        obtain ⟨h3, h4, h5⟩ := wkT_ok (N := N) hh
        refine ⟨fun B'' hB'' => .inl ⟨_, by rw [he, hB], ?_⟩, h5⟩
        rw [he', hB'] at hB''
        injection hB'' with hB''
        subst hB''
        refine ⟨rfl, rfl, rfl, rfl, fun k q q' hq hq' => ?_⟩
        cases k with
        | zero => simp at hq hq'; subst hq hq'; exact ⟨h3.symm, h4⟩
        | succ k => simp at hq
      · rename_i els1 els2 b1 b2
        simp only at b1 b2
        obtain ⟨h34, h5⟩ := hh
        subst b1 b2
        refine ⟨fun B'' hB'' => .inl ⟨_, by rw [he, hB], ?_⟩, h5⟩
        rw [he', hB'] at hB''
        injection hB'' with hB''
        subst hB''
        cases h34 with
        | same h3 h4 =>
          simp only at h3 h4
          subst h3
          refine ⟨rfl, rfl, rfl, rfl, fun k q q' hq hq' => ?_⟩
          simp only at hq hq'
          rw [hq] at hq'
          injection hq' with hq'
          subst hq'
          refine ⟨rfl, fun j x x' hx hx' => ?_⟩
          rw [hx] at hx'
          injection hx' with hx'
          subst hx'
          exact wv_fr (h4 q (List.mem_of_getElem? hq) x (List.mem_of_getElem? hx))
        | part h3 h4 =>
          exact ⟨rfl, rfl, rfl, h3, fun k q q' hq hq' => ⟨(h4 k q q' hq hq').1, fun j x x' hx hx' => ((h4 k q q' hq hq').2 j x x' hx hx').wv⟩⟩
      · exact hh.elim
theorem wkH_ok {hp hp' : List Ent} : ∀ (l l' : List Ent) (i0 : Nat) {K : Prop}, (∀ i, hpF hp (i0 + i) = l.getD i ⟨0, none⟩) → (∀ i, hpF hp' (i0 + i) = l'.getD i ⟨0, none⟩) → wkH hp hp' l l' K → (∀ i, i0 ≤ i → WE N (hpF hp) (hpF hp') i) ∧ K
  | l, [], i0, K, h1, h2, h => by
    have h' : K := by cases l <;> exact h
    refine ⟨fun i hi B' hB' => ?_, h'⟩
    have := h2 (i - i0)
    rw [show i0 + (i - i0) = i from by omega] at this
    rw [this] at hB'
    simp at hB'
  | e :: r, e' :: r', i0, K, h1, h2, h => by
    have q1 : hpF hp i0 = e := by simpa using h1 0
    have q2 : hpF hp' i0 = e' := by simpa using h2 0
    obtain ⟨h3, h4⟩ := wkE_ok (N := N) q1 q2 h
    obtain ⟨h5, h6⟩ := wkH_ok r r' (i0 + 1) (fun i => by have := h1 (i + 1); rw [show i0 + 1 + i = i0 + (i + 1) from by omega]; simpa using this) (fun i => by have := h2 (i + 1); rw [show i0 + 1 + i = i0 + (i + 1) from by omega]; simpa using this) h4
    refine ⟨fun i hi => ?_, h6⟩
    rcases Nat.eq_or_lt_of_le hi with h | h
    · subst h; exact h3
    · exact h5 i h
  | [], _ :: _, _, _, _, _, h => h.elim
end

def RepS (C : Cx) (w0 : World) (X : XX) (s : St) (m : MM) (a : Act) (w : World) : Prop := Rep C s.tm.length w0 X (tmF s.tm) (hpF s.hp) m a w
theorem leK_ok {C : Cx} {s s' : St} {K : Prop} (h : leK s s' K) : s'.tm.length = s.tm.length ∧ K ∧ ∀ w0 X m a w, RepS C w0 X s m a w → ∃ m', RepS C w0 X s' m' a w := by
  obtain ⟨h1, h2, h3⟩ := wkT_ok (N := C.N) h
  obtain ⟨h4, h5⟩ := wkH_ok (N := C.N) s.hp s'.hp 0 (fun i => by rw [Nat.zero_add]) (fun i => by rw [Nat.zero_add]) h3
  refine ⟨h1.symm, h5, fun w0 X m a w hr => ⟨mwk (hpF s.hp) (hpF s'.hp) m, ?_⟩⟩
  unfold RepS at hr ⊢
  rw [← h1]
  refine rep_wk hr (fun t => ?_) (fun i => h4 i (Nat.zero_le _))
  show WV C.N _ _ (s.tm.getD t .dead) (s'.tm.getD t .dead)
  rcases Nat.lt_or_ge t s.tm.length with hlt | hge
  · have a1 := List.getElem?_eq_getElem hlt
    have a2 := List.getElem?_eq_getElem (show t < s'.tm.length from by omega)
    have := h2 t _ _ a1 a2
    simpa [List.getD_eq_getElem?_getD, a1, a2] using this
  · rw [show s'.tm.getD t .dead = .dead from by rw [List.getD_eq_getElem?_getD, List.getElem?_eq_none (by omega)]; rfl]
    exact wv_dead _

/-- code, from a state -/
def AWP (C : Cx) (c : Code) (Q : Exit → St → Prop) (s : St) : Prop :=
  ∀ w0 X m a w, RepS C w0 X s m a w → c.wp C.P (fun e a' w' => ∃ s' m', s'.tm.length = s.tm.length ∧ Q e s' ∧ RepS C w0 X s' m' a' w') a w
def thenA (next : St → Prop) (Q : Exit → St → Prop) : Exit → St → Prop
  | .normal, s => next s
  | e, s => Q e s
def ifB : Bool → Prop → Prop → Prop
  | true, p, _ => p
  | false, _, q => q
def blockA (id : Nat) (Q : Exit → St → Prop) : Exit → St → Prop
  | .exit j, s => ifB (j.beq id) (Q .normal s) (Q (.exit j) s)
  | e, s => Q e s
section
variable {C : Cx} {Q : Exit → St → Prop} {s : St}
theorem awp_mono {c : Code} {Q' : Exit → St → Prop} (h : AWP C c Q s) (hq : ∀ e s, Q e s → Q' e s) : AWP C c Q' s :=
  fun w0 X m a w hr => wp_mono (h w0 X m a w hr) (fun _ _ _ ⟨s', m', h1, h2, h3⟩ => ⟨s', m', h1, hq _ _ h2, h3⟩)
theorem awp_le {c : Code} {s' : St} (hl : leK s s' True) (h : AWP C c Q s') : AWP C c Q s := by
  obtain ⟨h1, _, h2⟩ := leK_ok (C := C) hl
  intro w0 X m a w hr
  obtain ⟨m', hr'⟩ := h2 w0 X m a w hr
  exact wp_mono (h w0 X m' a w hr') (fun _ _ _ ⟨s2, m2, g1, g2, g3⟩ => ⟨s2, m2, by rw [g1, h1], g2, g3⟩)
theorem awp_skip (h : Q .normal s) : AWP C .skip Q s := fun _ _ m _ _ hr => wp_skip ⟨s, m, rfl, h, hr⟩
theorem awp_label {l : Nat} (h : Q .normal s) : AWP C (.label l) Q s := fun _ _ m _ _ hr => wp_label ⟨s, m, rfl, h, hr⟩
theorem awp_exit {id : Nat} (h : Q (.exit id) s) : AWP C (.exit id) Q s := fun _ _ m _ _ hr => wp_exit ⟨s, m, rfl, h, hr⟩
theorem awp_ret (h : Q .ret s) : AWP C .ret Q s := fun _ _ m _ _ hr => wp_ret ⟨s, m, rfl, h, hr⟩
theorem awp_seq {x y : Code} (h : AWP C x (thenA (AWP C y Q) Q) s) : AWP C (.seq x y) Q s := by
  intro w0 X m a w hr
  refine wp_seq (wp_mono (h w0 X m a w hr) ?_)
  rintro e a' w' ⟨s', m', h1, h2, h3⟩
  cases e with
  | normal => exact wp_mono (h2 w0 X m' a' w' h3) (fun _ _ _ ⟨s2, m2, g1, g2, g3⟩ => ⟨s2, m2, by rw [g1, h1], g2, g3⟩)
  | _ => exact ⟨s', m', h1, h2, h3⟩
theorem awp_block {id : Nat} {c : Code} (h : AWP C c (blockA id Q) s) : AWP C (.block id c) Q s := by
  intro w0 X m a w hr
  refine wp_block (wp_mono (h w0 X m a w hr) ?_)
  rintro e a' w' ⟨s', m', h1, h2, h3⟩
  cases e with
  | exit j =>
    simp only [Exit.inBlock]
    have h2' : ifB (j.beq id) (Q .normal s') (Q (.exit j) s') := h2
    split
    · rename_i hj
      rw [show j.beq id = true from by rw [hj]; exact Nat.beq_refl id] at h2'
      exact ⟨s', m', h1, h2', h3⟩
    · rename_i hj
      have : j.beq id = false := by
        cases hb : j.beq id
        · rfl
        · exact absurd (Nat.eq_of_beq_eq_true hb) hj
      rw [this] at h2'
      exact ⟨s', m', h1, h2', h3⟩
  | _ => exact ⟨s', m', h1, h2, h3⟩
theorem awp_cond {c : Operand} {x y : Code} {tm : List AV} {hp : List Ent} (h : evK tm c (fun a => match a with
    | .c (.bool t) => True → (t = true → AWP C x Q ⟨tm, hp⟩) ∧ (t = false → AWP C y Q ⟨tm, hp⟩)
    | _ => False)) : AWP C (.cond c x y) Q ⟨tm, hp⟩ := by
  intro w0 X m a w hr
  have h := evK_ok h
  split at h
  · rename_i t e
    have hv := Rep.ev hr c
    rw [e] at hv
    obtain ⟨h1, h2⟩ := h trivial
    exact wp_cond_split (rv_c hv) (fun ht => h1 ht w0 X m a w hr) (fun ht => h2 ht w0 X m a w hr)
  · exact h.elim
theorem awp_region {id : Nat} {ops : Array Oper} {draw : Bool} {tm : List AV} {hp : List Ent} (h : vcT C ops ops.toList [] tm hp [] [] (fun fs tm hp => (draw = true → indepOk ops fs = true ∧ backOk ops.toList 0 = true) ∧ Q .normal ⟨tm, hp⟩)) : AWP C (.region id ops draw) Q ⟨tm, hp⟩ := by
  intro w0 X m a w hr
  obtain ⟨fs, tm', hp', h1, _, ⟨h3, h4⟩, h5⟩ := vcT_ok _ _ _ _ _ _ _ (fun d b hd => by cases hd) h
  refine wp_region_tr h1 (fun hd => ⟨C.mixed, by simpa using (h3 hd).1, (h3 hd).2⟩) hr (fun m' a' w' hr' => ⟨⟨tm', hp'⟩, m', h5, h4, ?_⟩)
  unfold RepS
  rw [h5]
  exact hr'
/-- a frame by its live slots -/
def mkT : Nat → Nat → List (Nat × AV) → List AV
  | _, 0, _ => []
  | i, n + 1, (j, a) :: r => match j.beq i with
    | true => a :: mkT (i + 1) n r
    | false => .dead :: mkT (i + 1) n ((j, a) :: r)
  | i, n + 1, [] => .dead :: mkT (i + 1) n []
def mkH : Nat → Nat → List (Nat × Blk) → List Ent
  | _, 0, _ => []
  | i, n + 1, (j, a) :: r => match j.beq i with
    | true => ⟨0, some a⟩ :: mkH (i + 1) n r
    | false => ⟨0, none⟩ :: mkH (i + 1) n ((j, a) :: r)
  | i, n + 1, [] => ⟨0, none⟩ :: mkH (i + 1) n []
def mkS (n : Nat) (t : List (Nat × AV)) (h : List (Nat × Blk)) : St := ⟨mkT 0 n t, mkH 0 n h⟩
theorem awp_loop {α : Type} {c : Code} (I : α → St) (R : α → Prop) (μ : α → Nat) (x0 : α) (hR : R x0) (h0 : leK s (I x0) True)
    (round : ∀ x, R x → forceK (I x).tm (fun tm => forceK (I x).hp (fun hp => True → AWP C c (thenA (fun s' => ∃ x', R x' ∧ μ x' < μ x ∧ leK s' (I x') True) Q) ⟨tm, hp⟩))) : AWP C (.loop c) Q s := by
  intro w0 X m a w hr
  obtain ⟨g1, _, g2⟩ := leK_ok (C := C) h0
  obtain ⟨m0, hr0⟩ := g2 w0 X m a w hr
  refine wp_loop_ghost (fun n a w => ∃ x m, R x ∧ μ x = n ∧ (I x).tm.length = s.tm.length ∧ RepS C w0 X (I x) m a w) (μ x0) ⟨x0, m0, hR, rfl, g1, hr0⟩ ?_
  rintro n a w ⟨x, m, hRx, rfl, hl, hx⟩
  refine wp_mono (forceK_ok (forceK_ok (round x hRx)) trivial w0 X m a w hx) ?_
  rintro e a' w' ⟨s', m', h1, h2, h3⟩
  cases e with
  | normal =>
    obtain ⟨x', hR', hlt, hle⟩ := h2
    obtain ⟨k1, _, k2⟩ := leK_ok (C := C) hle
    obtain ⟨m2, h4⟩ := k2 w0 X m' a' w' h3
    exact ⟨μ x', hlt, x', m2, hR', rfl, by rw [k1, h1]; exact hl, h4⟩
  | _ => exact ⟨s', m', by rw [h1]; exact hl, h2, h3⟩
end

def nov : Shp := fun _ => (0, none)
def mO (O : Nat → Prop) : MM := ⟨fun _ => none, O⟩
theorem owned_nov {O : Nat → Prop} {b : Nat} : Owned nov (mO O) b ↔ O b := by
  constructor
  · rintro (h | ⟨i, h, _⟩)
    · exact h
    · exact absurd rfl h
  · exact .inl
/-- the function, called with these values, returns this value; memory of its callers stays as it is -/
def ACall (C : Cx) (f : FuncId) (args : List AV) (r : AV) : Prop :=
  (∀ (vs : Array Value) (w : World), (callFunc f vs).run C.P w = .ok (.enter f vs) w) ∧
  ∀ (w : World) (O : Nat → Prop) (cargs : Array Value), C.Gl w → C.N ≤ w.heap.size → (∀ b, O b → b < w.heap.size ∧ C.N ≤ b) → cargs.size = args.length → (∀ (j : Nat) (x : AV) (v : Value), args[j]? = some x → cargs[j]? = some v → RV w nov (mO O) x v) →
    Calls C.P f cargs w (fun e w' => ∃ v, e = .returned v ∧ RV w' nov (mO O) r v ∧ Kin w (fun _ => False) w' ∧ C.Gl w')

/-- the results of a function, as the state holds them -/
def resK (C : Cx) (tm : List AV) (hp : List Ent) : List ResultVar → (List AV → Prop) → Prop
  | [], k => k []
  | .tmp t :: r, k => getK tm t (fun a => resK C tm hp r (fun q => k (a :: q)))
  | .cell p t :: r, k => tyK C.T t (fun ti => getK tm p (fun a => match a with
    | .ptr i ver kk j => blkK hp i ver (fun B => ifK (Nat.ble (j + ti.sz) B.sz) (elK B kk (fun e => cutK ti e j (fun x => resK C tm hp r (fun q => k (x :: q))))))
    | _ => False))
def oneK : List AV → AV → (List AV → List AV → Prop) → Prop
  | [x], r, k => k [x] [r]
  | xs, .tup rs, k => k xs rs
  | _, _, _ => False
def retK (C : Cx) (rs : List ResultVar) (r : AV) : Exit → St → Prop
  | .normal, s => resK C s.tm s.hp rs (fun xs => oneK xs r (fun xs rs => True → wkT s.hp [] xs rs True))
  | .ret, s => resK C s.tm s.hp rs (fun xs => oneK xs r (fun xs rs => True → wkT s.hp [] xs rs True))
  | _, _ => False

theorem oneK_ok {xs : List AV} {r : AV} {k : List AV → List AV → Prop} (h : oneK xs r k) : (∃ x, xs = [x] ∧ k [x] [r]) ∨ (∃ rs, r = .tup rs ∧ (∀ x, xs ≠ [x]) ∧ k xs rs) := by
  unfold oneK at h
  split at h
  · exact .inl ⟨_, rfl, h⟩
  · rename_i hne
    exact .inr ⟨_, rfl, fun x e => hne x e, h⟩
  · exact h.elim
section
variable {C : Cx} {n : Nat}
theorem load_own {t : TypeId} {ti : TI} {p i ver k j : Nat} {B : Blk} {e : List AV} {τ : Nat → AV} {η : Nat → Ent} {w0 : World} {X : XX} {m : MM} {a : Act} {w : World} (h : Rep C n w0 X τ η m a w) (hx : τ p = .ptr i ver k j) (hi : η i = ⟨ver, some B⟩) (he : B.els[k]? = some e) (ht : TyOk C.P t ti) (h1 : ti.kind.agg = false → ti.sz = 1) (hj : j + ti.sz ≤ B.sz) :
    ∃ ad v, a.tmps.getD p undef = .pointer (some ad) ∧ (loadVar t ad).run C.P w = .ok v w ∧ RV w (shp η) m (cut ti e j) v := by
  have hv := h.tm p
  rw [hx] at hv
  obtain ⟨b, hb, hu⟩ := rv_ptr hv hi
  obtain ⟨v, h2, h3⟩ := p_load_own (o := ⟨none, .load t (.tmp p), 0, "", #[], none⟩) (x := .tmp p) rfl hx hi he ht h1 hj w0 X m a w h
  refine ⟨_, v, hu, ?_, h3⟩
  have hu' : a.eval (.tmp p) = .pointer (some ⟨b, k * B.sz + j, none⟩) := hu
  simp only [execOp, Instr.loadAt, hu', Instr.sureAddr, Sem.run_bind, Sem.run_pure, Result.andThen_ok] at h2
  generalize (loadVar t ⟨b, k * B.sz + j, none⟩).run C.P w = q at h2
  cases q with
  | ok u w' =>
    simp only [Result.andThen_ok] at h2
    injection h2 with h4 h5
    injection h4 with h4
    rw [h4, h5]
  | halt u w' => cases h2
theorem resK_ok {tm : List AV} {hp : List Ent} {w0 : World} {X : XX} {m : MM} {a : Act} {w : World} (h : Rep C tm.length w0 X (tmF tm) (hpF hp) m a w) : ∀ {rs : List ResultVar} {k : List AV → Prop}, resK C tm hp rs k →
    ∃ xs us, k xs ∧ (rs.mapM (fun r => (match r with | .tmp t => pure (a.tmps.getD t undef) | .cell q t => do loadVar t (← asAddr (a.tmps.getD q undef)) : Sem Value)) : Sem (List Value)).run C.P w = .ok us w ∧ xs.length = us.length ∧
      ∀ (j : Nat) (x : AV) (u : Value), xs[j]? = some x → us[j]? = some u → RV w (shp (hpF hp)) m x u
  | [], k, hk => ⟨[], [], hk, by simp, rfl, fun j x u hx => by simp at hx⟩
  | .tmp t :: r, k, hk => by
    obtain ⟨x, hx, hk⟩ := getK_ok hk
    obtain ⟨xs, us, h1, h2, h3, h4⟩ := resK_ok h hk
    have htx : tmF tm t = x := by
      show tm.getD t .dead = x
      rw [List.getD_eq_getElem?_getD, hx]
      rfl
    refine ⟨x :: xs, a.tmps.getD t undef :: us, h1, ?_, by simp [h3], fun j y u hy hu => ?_⟩
    · rw [List.mapM_cons]
      simp only [Sem.run_bind, Sem.run_pure, Result.andThen_ok, h2]
    · cases j with
      | zero =>
        simp only [List.getElem?_cons_zero, Option.some.injEq] at hy hu
        subst hy hu
        rw [← htx]
        exact h.tm t
      | succ j => exact h4 j y u (by simpa using hy) (by simpa using hu)
  | .cell p t :: r, k, hk => by
    obtain ⟨ti, ht, hk⟩ := tyK_ok hk
    obtain ⟨x, hx, hk⟩ := getK_ok hk
    have htx : tmF tm p = x := by
      show tm.getD p .dead = x
      rw [List.getD_eq_getElem?_getD, hx]
      rfl
    split at hk
    · obtain ⟨B, hB, hk⟩ := blkK_ok hk
      obtain ⟨g1, hk⟩ := ifK_ok hk
      obtain ⟨e, he, _, hk⟩ := elK_ok hk
      obtain ⟨c1, c2, hk⟩ := cutK_ok hk
      obtain ⟨ad, v, q1, q2, q3⟩ := load_own h htx hB he ht c2 (Nat.le_of_ble_eq_true g1)
      obtain ⟨xs, us, h1, h2, h3, h4⟩ := resK_ok h hk
      refine ⟨_ :: xs, v :: us, h1, ?_, by simp [h3], fun j y u hy hu => ?_⟩
      · rw [List.mapM_cons]
        have hA : (asAddr (a.tmps.getD p undef)).run C.P w = .ok ad w := by rw [q1]; rfl
        simp only [Sem.run_bind, hA, Sem.run_pure, Result.andThen_ok, q2, h2]
      · cases j with
        | zero =>
          simp only [List.getElem?_cons_zero, Option.some.injEq] at hy hu
          subst hy hu
          exact q3
        | succ j => exact h4 j y u (by simpa using hy) (by simpa using hu)
    · exact hk.elim

theorem shp_nil : shp (hpF []) = nov := by
  funext i
  simp [shp, nov]
theorem mwk_nil (η : Nat → Ent) (m : MM) : mwk η (hpF []) m = mO m.O := by
  unfold mwk mO
  congr 1
  funext i
  simp
theorem acall_of {f : FuncId} {fn : Func} {c : Code} {args : List AV} {r : AV} (hf : C.P.funcs[f]? = some fn) (hb : fn.body = some c) (hname : (fn.name == "runtime.NumGoroutine") = false) (hn : fn.ntmps = n) (_ha : args.length ≤ n)
    (h : forceK (args ++ List.replicate (n - args.length) .dead) (fun tm => forceK (List.replicate n ⟨0, none⟩) (fun hp => True → AWP C c (retK C fn.results.toList r) ⟨tm, hp⟩))) : ACall C f args r := by
  have h := forceK_ok (forceK_ok h) trivial
  refine ⟨fun vs w => ?_, fun w O cargs hg hN hO hsz hargs => ?_⟩
  · simp only [callFunc, Sem.run_bind, program, Sem.run, Result.andThen_ok, hf, hname, hb]
    rfl
  have hη : ∀ i, hpF (List.replicate n ⟨0, none⟩) i = ⟨0, none⟩ := fun i => by
    show (List.replicate n (⟨0, none⟩ : Ent)).getD i _ = _
    rw [List.getD_eq_getElem?_getD, List.getElem?_replicate]
    split <;> rfl
  have hηf : hpF (List.replicate n ⟨0, none⟩) = fun _ => ⟨0, none⟩ := funext hη
  have hshp : shp (hpF (List.replicate n ⟨0, none⟩)) = nov := by rw [hηf]; rfl
  have hrep : RepS C w ⟨fun _ => False, O⟩ ⟨args ++ List.replicate (n - args.length) .dead, List.replicate n ⟨0, none⟩⟩ (mO O) { tmps := cargs ++ Array.replicate (fn.ntmps - cargs.size) undef, defers := [] } w := by
    refine ⟨fun t => ?_, by simp [hn, hsz], rfl, ⟨fun i B hB => ?_, fun i i' b hl => ?_, fun i b hl => ?_, fun i b hl => ?_, hO, hN⟩, ⟨rfl, rfl, rfl, Nat.le_refl _, fun _ _ _ => rfl⟩, rfl, fun i b hl => ?_, hg⟩
    · rw [hshp]
      show RV w nov (mO O) ((args ++ List.replicate (n - args.length) AV.dead).getD t .dead) _
      rcases Nat.lt_or_ge t args.length with hlt | hge
      · rw [List.getD_eq_getElem?_getD, List.getElem?_append_left hlt, List.getElem?_eq_getElem hlt]
        have hc : t < cargs.size := by omega
        refine hargs t _ _ (List.getElem?_eq_getElem hlt) ?_
        rw [Array.getD_eq_getD_getElem?, Array.getElem?_append_left hc, Array.getElem?_eq_getElem hc]
        rfl
      · have : (args ++ List.replicate (n - args.length) AV.dead).getD t .dead = .dead := by
          rw [List.getD_eq_getElem?_getD, List.getElem?_append_right hge, List.getElem?_replicate]
          split <;> rfl
        rw [this]
        exact .dead _
    all_goals (simp only [hη] at *; first | (exact absurd rfl hl) | (cases hB))
  refine calls_of_wp hf hb (wp_mono (h w _ (mO O) _ w hrep) ?_)
  rintro e a' w' ⟨s', m', hl, hq, hr'⟩
  have fin : resK C s'.tm s'.hp fn.results.toList (fun xs => oneK xs r (fun xs rs => True → wkT s'.hp [] xs rs True)) → a'.defers = [] ∧ ∃ v, (results fn a'.tmps).run C.P w' = .ok v w' ∧ ∃ u, Ending.returned v = .returned u ∧ RV w' nov (mO O) r u ∧ Kin w (fun _ => False) w' ∧ C.Gl w' := by
    intro hk
    obtain ⟨xs, us, h1, h2, h3, h4⟩ := resK_ok hr' hk
    refine ⟨hr'.df, ?_⟩
    have hO' : m'.O = O := hr'.oo
    have hfin : ∀ (ys : List AV), wkT s'.hp [] xs ys True → xs.length = ys.length ∧ ∀ (j : Nat) (y : AV) (u : Value), ys[j]? = some y → us[j]? = some u → RV w' nov (mO O) y u := by
      intro ys hw
      obtain ⟨g1, g2, _⟩ := wkT_ok (N := C.N) hw
      refine ⟨g1, fun j y u hy hu => ?_⟩
      have hlt : j < xs.length := by rw [g1]; exact (List.getElem?_eq_some_iff.1 hy).1
      have := g2 j _ y (List.getElem?_eq_getElem hlt) hy w' m' u hr'.mem (h4 j _ u (List.getElem?_eq_getElem hlt) hu)
      rw [shp_nil, mwk_nil, hO'] at this
      exact this
    have hrun : (results fn a'.tmps).run C.P w' = .ok (if h : us.toArray.size = 1 then us.toArray[0] else .tuple us.toArray) w' := by
      unfold results
      rw [Array.mapM_eq_mapM_toList, map_eq_pure_bind]
      simp only [Sem.run_bind]
      erw [h2]
      simp
    refine ⟨_, hrun, _, rfl, ?_, hr'.kin, hr'.gl⟩
    rcases oneK_ok h1 with ⟨x, rfl, h1⟩ | ⟨rs, rfl, hne, h1⟩
    · obtain ⟨g1, g2⟩ := hfin [r] (h1 trivial)
      have hus : us.length = 1 := by simpa using h3.symm
      obtain ⟨u, rfl⟩ := List.length_eq_one_iff.1 hus
      simpa using g2 0 r u rfl rfl
    · obtain ⟨g1, g2⟩ := hfin rs (h1 trivial)
      have hus : us.length ≠ 1 := fun e => by
        obtain ⟨x, rfl⟩ := List.length_eq_one_iff.1 (show xs.length = 1 by omega)
        exact hne x rfl
      rw [dif_neg (by simpa using hus)]
      refine .tup (by simp; omega) (fun j x u hx hu => g2 j x u hx (by simpa using hu))
  cases e with
  | normal => exact fin hq
  | ret => exact fin hq
  | _ => exact hq.elim

/-- a value without handles of the call's own, as far as its head shows -/
def fr0 : AV → Prop
  | .c _ => True
  | .sl _ _ => True
  | x => Fr x
def frs0 : List AV → Prop
  | [] => True
  | x :: r => fr0 x ∧ frs0 r
def fr1 : AV → Prop
  | .agg cs => frs0 cs
  | .tup cs => frs0 cs
  | x => fr0 x
def frs : List AV → Prop
  | [] => True
  | x :: r => fr1 x ∧ frs r
theorem rv_fr0 {w : World} {vs vs' : Shp} {m m' : MM} {x : AV} {v : Value} (hx : fr0 x) (ho : ∀ b, Owned vs' m' b → Owned vs m b) (h : RV w vs m x v) : RV w vs' m' x v := by
  unfold fr0 at hx
  split at hx
  · exact rv_fr (.c _) ho h
  · have := h
    obtain ⟨_, _, _, _, _, _, _, _, _, _, _, _, hfr⟩ := rv_sl this
    exact rv_fr (.sl hfr) ho h
  · exact rv_fr hx ho h
theorem frs0_at : ∀ {l : List AV} {j : Nat} {x : AV}, frs0 l → l[j]? = some x → fr0 x
  | [], _, _, _, h => by simp at h
  | y :: r, 0, x, h, hx => by simp at hx; subst hx; exact h.1
  | y :: r, j + 1, x, h, hx => frs0_at (l := r) (j := j) h.2 (by simpa using hx)
theorem frs_at : ∀ {l : List AV} {j : Nat} {x : AV}, frs l → l[j]? = some x → fr1 x
  | [], _, _, _, h => by simp at h
  | y :: r, 0, x, h, hx => by simp at hx; subst hx; exact h.1
  | y :: r, j + 1, x, h, hx => frs_at (l := r) (j := j) h.2 (by simpa using hx)
theorem rv_fr1 {w : World} {vs vs' : Shp} {m m' : MM} {x : AV} {v : Value} (hx : fr1 x) (ho : ∀ b, Owned vs' m' b → Owned vs m b) (h : RV w vs m x v) : RV w vs' m' x v := by
  unfold fr1 at hx
  split at hx
  · obtain ⟨us, rfl, h1, h2⟩ := rv_agg h
    exact .agg h1 (fun j y u hy hu => rv_fr0 (frs0_at hx hy) ho (h2 j y u hy hu))
  · obtain ⟨us, rfl, h1, h2⟩ := rv_tup h
    exact .tup h1 (fun j y u hy hu => rv_fr0 (frs0_at hx hy) ho (h2 j y u hy hu))
  · exact rv_fr0 hx ho h

/-- a call of a function, by its contract -/
theorem lf_call {o : Oper} {τ : Nat → AV} {η : Nat → Ent} {f : FuncId} {os : Array Operand} {ats : Array TypeId} {r : AV} {args : List AV} (ho : o.op = .call ⟨.value (.func f), os, ats⟩) (hd : InB n o.dst) (hargs : os.toList.map (evA τ) = args) (hc : ACall C f args r) (hfr : frs args) (hr : fr1 r) : LF C n o τ η ⟨r, [], []⟩ := by
  subst hargs
  intro τ' η' hτ _ w0 X m a w h
  obtain ⟨hen, hcall⟩ := hc
  have hmap : os.toList.map (evA τ') = os.toList.map (evA τ) := List.map_congr_left (fun y hy => hτ y (by simp [ho, Op.operands, Call.operands]; exact .inr (by simpa using hy)))
  have hrun : (execOp a.eval o).run C.P w = .ok (.enter f (os.map a.eval)) w := by
    simp [execOp, ho, resolve, Act.eval, Deferred.ofValue, invoke, hen]
  have hO : ∀ b, Owned (shp η') m b → b < w.heap.size ∧ C.N ≤ b := by
    rintro b (h1 | ⟨i, h1, h2⟩)
    · exact h.mem.olt b h1
    · exact ⟨h.mem.lt (blk_live.1 h1) h2, h.mem.low i b (blk_live.1 h1) h2⟩
  have := hcall w (Owned (shp η') m) (os.map a.eval) h.gl h.mem.big hO (by simp) (fun j x v hx hv => by
    refine rv_fr1 (frs_at hfr hx) (fun b hb => owned_nov.1 hb) ?_ (vs := shp η') (m := m)
    rw [← hmap, List.getElem?_map] at hx
    rw [Array.getElem?_map] at hv
    cases hj : os[j]? with
    | none => rw [hj] at hv; cases hv
    | some q =>
      have hj' : os.toList[j]? = some q := by simpa using hj
      rw [hj'] at hx
      rw [hj] at hv
      simp at hx hv
      rw [← hx, ← hv]
      exact h.ev q)
  unfold Oper.wp
  rw [hrun]
  refine Calls.mono this ?_
  rintro e w' ⟨v, rfl, h1, h2, h3⟩
  have hm : Mono w (shp η') m w' (shp η') m := by
    refine ⟨h2.size, fun b hb _ => h2.block b hb (by simp), fun _ _ h => h, fun _ => Nat.le_refl _, fun i _ => ⟨rfl, fun hl => ⟨rfl, fun b hb => ?_⟩⟩⟩
    unfold World.shape?
    rw [h2.block b (h.mem.lt (blk_live.1 hl) hb) (by simp)]
  have hmem : Mem C.N w' η' m := ⟨fun i B hB => (h.mem.ok i B hB).mono hm (fun b hb => h2.block b (h.mem.lt (by rw [hB]; simp) hb) (by simp)), h.mem.inj, h.mem.low, h.mem.sep, fun b hb => ⟨Nat.lt_of_lt_of_le (h.mem.olt b hb).1 h2.size, (h.mem.olt b hb).2⟩, Nat.le_trans h.mem.big h2.size⟩
  have hkin : Kin w0 X.X w' := ⟨h2.os.trans h.kin.os, h2.tape.trans h.kin.tape, h2.output.trans h.kin.output, Nat.le_trans h.kin.size h2.size, fun b hb hx => by rw [h2.block b (Nat.lt_of_lt_of_le hb h.kin.size) (by simp), h.kin.block b hb hx]⟩
  exact ⟨m, (h.move hm hmem hkin rfl h.own).put hd (rv_fr1 hr (fun b hb => owned_nov.2 hb) h1)⟩
end
attribute [irreducible] AWP
end Go.Proofs.YticdfbhbbapbdaaDoor.Am
/- What the abstract machine knows of the types of the program. -/
namespace Go.Proofs.YticdfbhbbapbdaaDoor.Am
open Go.RowKit

theorem ty_1 : TyOk Tryd.prog 1 ⟨1, 8, .nilFunc, .other⟩ := ⟨by kernel_rfl, ⟨_, Tryd.underlying1, (fun h => h)⟩, rfl⟩
theorem ty_2 : TyOk Tryd.prog 2 ⟨1, 8, .int .i64 0, .int .i64⟩ := ⟨by kernel_rfl, ⟨_, Tryd.underlying2, rfl⟩, rfl⟩
theorem ty_3 : TyOk Tryd.prog 3 ⟨1, 8, .int .i64 0, .int .i64⟩ := ⟨by kernel_rfl, ⟨_, Tryd.underlying3, rfl⟩, rfl⟩
theorem ty_4 : TyOk Tryd.prog 4 ⟨1, 1, .bool false, .bool⟩ := ⟨by kernel_rfl, ⟨_, Tryd.underlying4, trivial⟩, rfl⟩
theorem ty_5 : TyOk Tryd.prog 5 ⟨1, 1, .int .u8 0, .int .u8⟩ := ⟨by kernel_rfl, ⟨_, Tryd.underlying5, rfl⟩, rfl⟩
theorem ty_6 : TyOk Tryd.prog 6 ⟨1, 1, .int .u8 0, .int .u8⟩ := ⟨by kernel_rfl, ⟨_, Tryd.underlying6, rfl⟩, rfl⟩
theorem ty_7 : TyOk Tryd.prog 7 ⟨4, 24, .agg #[.int .i64 0, .int .i64 0, .bool false, .int .u8 0], .struct [(0, 2), (1, 3), (2, 4), (3, 6)]⟩ := ⟨by kernel_rfl, ⟨_, Tryd.underlying7, rfl⟩, rfl⟩
theorem ty_8 : TyOk Tryd.prog 8 ⟨4, 24, .agg #[.int .i64 0, .int .i64 0, .bool false, .int .u8 0], .struct [(0, 2), (1, 3), (2, 4), (3, 6)]⟩ := ⟨by kernel_rfl, ⟨_, Tryd.underlying8, rfl⟩, rfl⟩
theorem ty_9 : TyOk Tryd.prog 9 ⟨1, 16, .string .empty, .str⟩ := ⟨by kernel_rfl, ⟨_, Tryd.underlying9, trivial⟩, rfl⟩
theorem ty_10 : TyOk Tryd.prog 10 ⟨1, 16, .string .empty, .str⟩ := ⟨by kernel_rfl, ⟨_, Tryd.underlying10, trivial⟩, rfl⟩
theorem ty_11 : TyOk Tryd.prog 11 ⟨1, 16, .string .empty, .str⟩ := ⟨by kernel_rfl, ⟨_, Tryd.underlying11, trivial⟩, rfl⟩
theorem ty_12 : TyOk Tryd.prog 12 ⟨1, 8, .int .u64 0, .int .u64⟩ := ⟨by kernel_rfl, ⟨_, Tryd.underlying12, rfl⟩, rfl⟩
theorem ty_13 : TyOk Tryd.prog 13 ⟨2, 24, .agg #[.string .empty, .int .u64 0], .struct [(0, 9), (1, 12)]⟩ := ⟨by kernel_rfl, ⟨_, Tryd.underlying13, rfl⟩, rfl⟩
theorem ty_14 : TyOk Tryd.prog 14 ⟨2, 24, .agg #[.string .empty, .int .u64 0], .struct [(0, 9), (1, 12)]⟩ := ⟨by kernel_rfl, ⟨_, Tryd.underlying14, rfl⟩, rfl⟩
theorem ty_15 : TyOk Tryd.prog 15 ⟨1, 8, .pointer none, .ptr⟩ := ⟨by kernel_rfl, ⟨_, Tryd.underlying15, trivial⟩, rfl⟩
theorem ty_16 : TyOk Tryd.prog 16 ⟨1, 8, .pointer none, .ptr⟩ := ⟨by kernel_rfl, ⟨_, Tryd.underlying16, trivial⟩, rfl⟩
theorem ty_17 : TyOk Tryd.prog 17 ⟨1, 8, .pointer none, .ptr⟩ := ⟨by kernel_rfl, ⟨_, Tryd.underlying17, trivial⟩, rfl⟩
theorem ty_18 : TyOk Tryd.prog 18 ⟨1, 8, .agg #[.pointer none], .struct [(0, 17)]⟩ := ⟨by kernel_rfl, ⟨_, Tryd.underlying18, rfl⟩, rfl⟩
theorem ty_19 : TyOk Tryd.prog 19 ⟨1, 8, .agg #[.pointer none], .struct [(0, 17)]⟩ := ⟨by kernel_rfl, ⟨_, Tryd.underlying19, rfl⟩, rfl⟩
theorem ty_20 : TyOk Tryd.prog 20 ⟨1, 16, .nilIface, .iface⟩ := ⟨by kernel_rfl, ⟨_, Tryd.underlying20, trivial⟩, rfl⟩
theorem ty_21 : TyOk Tryd.prog 21 ⟨1, 4, .int .i32 0, .int .i32⟩ := ⟨by kernel_rfl, ⟨_, Tryd.underlying21, rfl⟩, rfl⟩
theorem ty_22 : TyOk Tryd.prog 22 ⟨1, 8, .nilFunc, .other⟩ := ⟨by kernel_rfl, ⟨_, Tryd.underlying22, (fun h => h)⟩, rfl⟩
theorem ty_23 : TyOk Tryd.prog 23 ⟨1, 24, .slice none 0 0, .slice 45⟩ := ⟨by kernel_rfl, ⟨_, Tryd.underlying23, rfl⟩, rfl⟩
theorem ty_24 : TyOk Tryd.prog 24 ⟨2, 32, .agg #[.int .i64 0, .slice none 0 0], .struct [(0, 3), (1, 23)]⟩ := ⟨by kernel_rfl, ⟨_, Tryd.underlying24, rfl⟩, rfl⟩
theorem ty_25 : TyOk Tryd.prog 25 ⟨2, 32, .agg #[.int .i64 0, .slice none 0 0], .struct [(0, 3), (1, 23)]⟩ := ⟨by kernel_rfl, ⟨_, Tryd.underlying25, rfl⟩, rfl⟩
theorem ty_26 : TyOk Tryd.prog 26 ⟨1, 8, .nilFunc, .other⟩ := ⟨by kernel_rfl, ⟨_, Tryd.underlying26, (fun h => h)⟩, rfl⟩
theorem ty_27 : TyOk Tryd.prog 27 ⟨1, 16, .nilIface, .iface⟩ := ⟨by kernel_rfl, ⟨_, Tryd.underlying27, trivial⟩, rfl⟩
theorem ty_28 : TyOk Tryd.prog 28 ⟨1, 16, .nilIface, .iface⟩ := ⟨by kernel_rfl, ⟨_, Tryd.underlying28, trivial⟩, rfl⟩
theorem ty_29 : TyOk Tryd.prog 29 ⟨1, 8, .nilFunc, .other⟩ := ⟨by kernel_rfl, ⟨_, Tryd.underlying29, (fun h => h)⟩, rfl⟩
theorem ty_30 : TyOk Tryd.prog 30 ⟨1, 8, .nilFunc, .other⟩ := ⟨by kernel_rfl, ⟨_, Tryd.underlying30, (fun h => h)⟩, rfl⟩
theorem ty_31 : TyOk Tryd.prog 31 ⟨1, 8, .nilFunc, .other⟩ := ⟨by kernel_rfl, ⟨_, Tryd.underlying31, (fun h => h)⟩, rfl⟩
theorem ty_32 : TyOk Tryd.prog 32 ⟨1, 8, .nilFunc, .other⟩ := ⟨by kernel_rfl, ⟨_, Tryd.underlying32, (fun h => h)⟩, rfl⟩
theorem ty_34 : TyOk Tryd.prog 34 ⟨1, 8, .nilFunc, .other⟩ := ⟨by kernel_rfl, ⟨_, Tryd.underlying34, (fun h => h)⟩, rfl⟩
theorem ty_35 : TyOk Tryd.prog 35 ⟨1, 8, .nilFunc, .other⟩ := ⟨by kernel_rfl, ⟨_, Tryd.underlying35, (fun h => h)⟩, rfl⟩
theorem ty_36 : TyOk Tryd.prog 36 ⟨1, 24, .slice none 0 0, .slice 3⟩ := ⟨by kernel_rfl, ⟨_, Tryd.underlying36, rfl⟩, rfl⟩
theorem ty_37 : TyOk Tryd.prog 37 ⟨1, 8, .nilFunc, .other⟩ := ⟨by kernel_rfl, ⟨_, Tryd.underlying37, (fun h => h)⟩, rfl⟩
theorem ty_38 : TyOk Tryd.prog 38 ⟨1, 8, .nilFunc, .other⟩ := ⟨by kernel_rfl, ⟨_, Tryd.underlying38, (fun h => h)⟩, rfl⟩
theorem ty_39 : TyOk Tryd.prog 39 ⟨1, 8, .nilFunc, .other⟩ := ⟨by kernel_rfl, ⟨_, Tryd.underlying39, (fun h => h)⟩, rfl⟩
theorem ty_40 : TyOk Tryd.prog 40 ⟨1, 8, .nilFunc, .other⟩ := ⟨by kernel_rfl, ⟨_, Tryd.underlying40, (fun h => h)⟩, rfl⟩
theorem ty_41 : TyOk Tryd.prog 41 ⟨1, 8, .nilFunc, .other⟩ := ⟨by kernel_rfl, ⟨_, Tryd.underlying41, (fun h => h)⟩, rfl⟩
theorem ty_42 : TyOk Tryd.prog 42 ⟨1, 8, .nilFunc, .other⟩ := ⟨by kernel_rfl, ⟨_, Tryd.underlying42, (fun h => h)⟩, rfl⟩
theorem ty_43 : TyOk Tryd.prog 43 ⟨1, 24, .slice none 0 0, .slice 54⟩ := ⟨by kernel_rfl, ⟨_, Tryd.underlying43, rfl⟩, rfl⟩
theorem ty_44 : TyOk Tryd.prog 44 ⟨2, 32, .agg #[.slice none 0 0, .int .i64 0], .struct [(0, 43), (1, 3)]⟩ := ⟨by kernel_rfl, ⟨_, Tryd.underlying44, rfl⟩, rfl⟩
theorem ty_45 : TyOk Tryd.prog 45 ⟨2, 32, .agg #[.slice none 0 0, .int .i64 0], .struct [(0, 43), (1, 3)]⟩ := ⟨by kernel_rfl, ⟨_, Tryd.underlying45, rfl⟩, rfl⟩
theorem ty_46 : TyOk Tryd.prog 46 ⟨1, 8, .nilFunc, .other⟩ := ⟨by kernel_rfl, ⟨_, Tryd.underlying46, (fun h => h)⟩, rfl⟩
theorem ty_48 : TyOk Tryd.prog 48 ⟨1, 8, .nilFunc, .other⟩ := ⟨by kernel_rfl, ⟨_, Tryd.underlying48, (fun h => h)⟩, rfl⟩
theorem ty_50 : TyOk Tryd.prog 50 ⟨1, 8, .nilFunc, .other⟩ := ⟨by kernel_rfl, ⟨_, Tryd.underlying50, (fun h => h)⟩, rfl⟩
theorem ty_51 : TyOk Tryd.prog 51 ⟨1, 8, .nilFunc, .other⟩ := ⟨by kernel_rfl, ⟨_, Tryd.underlying51, (fun h => h)⟩, rfl⟩
theorem ty_52 : TyOk Tryd.prog 52 ⟨1, 8, .nilFunc, .other⟩ := ⟨by kernel_rfl, ⟨_, Tryd.underlying52, (fun h => h)⟩, rfl⟩
theorem ty_53 : TyOk Tryd.prog 53 ⟨2, 16, .agg #[.int .i64 0, .int .i64 0], .struct [(0, 3), (1, 3)]⟩ := ⟨by kernel_rfl, ⟨_, Tryd.underlying53, rfl⟩, rfl⟩
theorem ty_54 : TyOk Tryd.prog 54 ⟨2, 16, .agg #[.int .i64 0, .int .i64 0], .struct [(0, 3), (1, 3)]⟩ := ⟨by kernel_rfl, ⟨_, Tryd.underlying54, rfl⟩, rfl⟩
theorem ty_55 : TyOk Tryd.prog 55 ⟨1, 8, .int .i64 0, .int .i64⟩ := ⟨by kernel_rfl, ⟨_, Tryd.underlying55, rfl⟩, rfl⟩
theorem ty_57 : TyOk Tryd.prog 57 ⟨1, 8, .nilFunc, .other⟩ := ⟨by kernel_rfl, ⟨_, Tryd.underlying57, (fun h => h)⟩, rfl⟩
theorem ty_58 : TyOk Tryd.prog 58 ⟨1, 8, .pointer none, .ptr⟩ := ⟨by kernel_rfl, ⟨_, Tryd.underlying58, trivial⟩, rfl⟩
theorem ty_59 : TyOk Tryd.prog 59 ⟨1, 24, .slice none 0 0, .slice 5⟩ := ⟨by kernel_rfl, ⟨_, Tryd.underlying59, rfl⟩, rfl⟩
theorem ty_60 : TyOk Tryd.prog 60 ⟨2, 32, .agg #[.pointer none, .slice none 0 0], .struct [(0, 58), (1, 59)]⟩ := ⟨by kernel_rfl, ⟨_, Tryd.underlying60, rfl⟩, rfl⟩
theorem ty_61 : TyOk Tryd.prog 61 ⟨2, 32, .agg #[.pointer none, .slice none 0 0], .struct [(0, 58), (1, 59)]⟩ := ⟨by kernel_rfl, ⟨_, Tryd.underlying61, rfl⟩, rfl⟩
theorem ty_63 : TyOk Tryd.prog 63 ⟨1, 8, .nilFunc, .other⟩ := ⟨by kernel_rfl, ⟨_, Tryd.underlying63, (fun h => h)⟩, rfl⟩
theorem ty_64 : TyOk Tryd.prog 64 ⟨1, 8, .nilFunc, .other⟩ := ⟨by kernel_rfl, ⟨_, Tryd.underlying64, (fun h => h)⟩, rfl⟩
theorem ty_65 : TyOk Tryd.prog 65 ⟨1, 8, .nilFunc, .other⟩ := ⟨by kernel_rfl, ⟨_, Tryd.underlying65, (fun h => h)⟩, rfl⟩
theorem ty_66 : TyOk Tryd.prog 66 ⟨1, 8, .nilFunc, .other⟩ := ⟨by kernel_rfl, ⟨_, Tryd.underlying66, (fun h => h)⟩, rfl⟩
theorem ty_67 : TyOk Tryd.prog 67 ⟨1, 8, .nilFunc, .other⟩ := ⟨by kernel_rfl, ⟨_, Tryd.underlying67, (fun h => h)⟩, rfl⟩
theorem ty_68 : TyOk Tryd.prog 68 ⟨1, 8, .nilFunc, .other⟩ := ⟨by kernel_rfl, ⟨_, Tryd.underlying68, (fun h => h)⟩, rfl⟩
theorem ty_69 : TyOk Tryd.prog 69 ⟨1, 8, .nilFunc, .other⟩ := ⟨by kernel_rfl, ⟨_, Tryd.underlying69, (fun h => h)⟩, rfl⟩
theorem ty_70 : TyOk Tryd.prog 70 ⟨1, 8, .nilFunc, .other⟩ := ⟨by kernel_rfl, ⟨_, Tryd.underlying70, (fun h => h)⟩, rfl⟩
theorem ty_71 : TyOk Tryd.prog 71 ⟨1, 8, .nilFunc, .other⟩ := ⟨by kernel_rfl, ⟨_, Tryd.underlying71, (fun h => h)⟩, rfl⟩
theorem ty_72 : TyOk Tryd.prog 72 ⟨1, 8, .nilFunc, .other⟩ := ⟨by kernel_rfl, ⟨_, Tryd.underlying72, (fun h => h)⟩, rfl⟩
theorem ty_73 : TyOk Tryd.prog 73 ⟨1, 8, .nilFunc, .other⟩ := ⟨by kernel_rfl, ⟨_, Tryd.underlying73, (fun h => h)⟩, rfl⟩
theorem ty_74 : TyOk Tryd.prog 74 ⟨1, 8, .nilFunc, .other⟩ := ⟨by kernel_rfl, ⟨_, Tryd.underlying74, (fun h => h)⟩, rfl⟩
theorem ty_75 : TyOk Tryd.prog 75 ⟨1, 24, .slice none 0 0, .slice 9⟩ := ⟨by kernel_rfl, ⟨_, Tryd.underlying75, rfl⟩, rfl⟩
theorem ty_76 : TyOk Tryd.prog 76 ⟨1, 8, .nilFunc, .other⟩ := ⟨by kernel_rfl, ⟨_, Tryd.underlying76, (fun h => h)⟩, rfl⟩
theorem ty_78 : TyOk Tryd.prog 78 ⟨1, 8, .nilFunc, .other⟩ := ⟨by kernel_rfl, ⟨_, Tryd.underlying78, (fun h => h)⟩, rfl⟩
theorem ty_80 : TyOk Tryd.prog 80 ⟨1, 8, .nilFunc, .other⟩ := ⟨by kernel_rfl, ⟨_, Tryd.underlying80, (fun h => h)⟩, rfl⟩
theorem ty_82 : TyOk Tryd.prog 82 ⟨1, 8, .nilFunc, .other⟩ := ⟨by kernel_rfl, ⟨_, Tryd.underlying82, (fun h => h)⟩, rfl⟩
theorem ty_83 : TyOk Tryd.prog 83 ⟨1, 8, .pointer none, .ptr⟩ := ⟨by kernel_rfl, ⟨_, Tryd.underlying83, trivial⟩, rfl⟩
theorem ty_84 : TyOk Tryd.prog 84 ⟨1, 8, .nilFunc, .other⟩ := ⟨by kernel_rfl, ⟨_, Tryd.underlying84, (fun h => h)⟩, rfl⟩
theorem ty_85 : TyOk Tryd.prog 85 ⟨1, 8, .nilFunc, .other⟩ := ⟨by kernel_rfl, ⟨_, Tryd.underlying85, (fun h => h)⟩, rfl⟩
theorem ty_86 : TyOk Tryd.prog 86 ⟨1, 8, .nilFunc, .other⟩ := ⟨by kernel_rfl, ⟨_, Tryd.underlying86, (fun h => h)⟩, rfl⟩
theorem ty_87 : TyOk Tryd.prog 87 ⟨1, 8, .nilFunc, .other⟩ := ⟨by kernel_rfl, ⟨_, Tryd.underlying87, (fun h => h)⟩, rfl⟩
theorem ty_88 : TyOk Tryd.prog 88 ⟨1, 8, .nilFunc, .other⟩ := ⟨by kernel_rfl, ⟨_, Tryd.underlying88, (fun h => h)⟩, rfl⟩
theorem ty_90 : TyOk Tryd.prog 90 ⟨1, 8, .nilFunc, .other⟩ := ⟨by kernel_rfl, ⟨_, Tryd.underlying90, (fun h => h)⟩, rfl⟩
theorem ty_92 : TyOk Tryd.prog 92 ⟨1, 8, .nilFunc, .other⟩ := ⟨by kernel_rfl, ⟨_, Tryd.underlying92, (fun h => h)⟩, rfl⟩
theorem ty_93 : TyOk Tryd.prog 93 ⟨1, 8, .nilFunc, .other⟩ := ⟨by kernel_rfl, ⟨_, Tryd.underlying93, (fun h => h)⟩, rfl⟩
theorem ty_95 : TyOk Tryd.prog 95 ⟨1, 8, .nilFunc, .other⟩ := ⟨by kernel_rfl, ⟨_, Tryd.underlying95, (fun h => h)⟩, rfl⟩
theorem ty_97 : TyOk Tryd.prog 97 ⟨1, 8, .nilFunc, .other⟩ := ⟨by kernel_rfl, ⟨_, Tryd.underlying97, (fun h => h)⟩, rfl⟩
theorem ty_98 : TyOk Tryd.prog 98 ⟨1, 8, .nilFunc, .other⟩ := ⟨by kernel_rfl, ⟨_, Tryd.underlying98, (fun h => h)⟩, rfl⟩
theorem ty_99 : TyOk Tryd.prog 99 ⟨1, 8, .nilFunc, .other⟩ := ⟨by kernel_rfl, ⟨_, Tryd.underlying99, (fun h => h)⟩, rfl⟩
theorem ty_100 : TyOk Tryd.prog 100 ⟨1, 8, .nilFunc, .other⟩ := ⟨by kernel_rfl, ⟨_, Tryd.underlying100, (fun h => h)⟩, rfl⟩
theorem ty_101 : TyOk Tryd.prog 101 ⟨1, 8, .nilFunc, .other⟩ := ⟨by kernel_rfl, ⟨_, Tryd.underlying101, (fun h => h)⟩, rfl⟩
theorem ty_102 : TyOk Tryd.prog 102 ⟨1, 8, .nilFunc, .other⟩ := ⟨by kernel_rfl, ⟨_, Tryd.underlying102, (fun h => h)⟩, rfl⟩
theorem ty_103 : TyOk Tryd.prog 103 ⟨24, 24, .agg #[.int .u8 0, .int .u8 0, .int .u8 0, .int .u8 0, .int .u8 0, .int .u8 0, .int .u8 0, .int .u8 0, .int .u8 0, .int .u8 0, .int .u8 0, .int .u8 0, .int .u8 0, .int .u8 0, .int .u8 0, .int .u8 0, .int .u8 0, .int .u8 0, .int .u8 0, .int .u8 0, .int .u8 0, .int .u8 0, .int .u8 0, .int .u8 0], .array 24 5⟩ := ⟨by kernel_rfl, ⟨_, Tryd.underlying103, ⟨rfl, rfl⟩⟩, rfl⟩
theorem ty_104 : TyOk Tryd.prog 104 ⟨1, 8, .int .u64 0, .int .u64⟩ := ⟨by kernel_rfl, ⟨_, Tryd.underlying104, rfl⟩, rfl⟩
theorem ty_105 : TyOk Tryd.prog 105 ⟨1, 8, .nilFunc, .other⟩ := ⟨by kernel_rfl, ⟨_, Tryd.underlying105, (fun h => h)⟩, rfl⟩
theorem ty_106 : TyOk Tryd.prog 106 ⟨1, 8, .nilFunc, .other⟩ := ⟨by kernel_rfl, ⟨_, Tryd.underlying106, (fun h => h)⟩, rfl⟩
theorem ty_108 : TyOk Tryd.prog 108 ⟨1, 8, .nilFunc, .other⟩ := ⟨by kernel_rfl, ⟨_, Tryd.underlying108, (fun h => h)⟩, rfl⟩
theorem ty_109 : TyOk Tryd.prog 109 ⟨1, 8, .int .u64 0, .int .u64⟩ := ⟨by kernel_rfl, ⟨_, Tryd.underlying109, rfl⟩, rfl⟩
theorem ty_110 : TyOk Tryd.prog 110 ⟨1, 8, .nilFunc, .other⟩ := ⟨by kernel_rfl, ⟨_, Tryd.underlying110, (fun h => h)⟩, rfl⟩
theorem ty_112 : TyOk Tryd.prog 112 ⟨1, 8, .nilFunc, .other⟩ := ⟨by kernel_rfl, ⟨_, Tryd.underlying112, (fun h => h)⟩, rfl⟩
theorem ty_113 : TyOk Tryd.prog 113 ⟨1, 8, .nilFunc, .other⟩ := ⟨by kernel_rfl, ⟨_, Tryd.underlying113, (fun h => h)⟩, rfl⟩
theorem ty_114 : TyOk Tryd.prog 114 ⟨1, 8, .nilFunc, .other⟩ := ⟨by kernel_rfl, ⟨_, Tryd.underlying114, (fun h => h)⟩, rfl⟩
theorem ty_115 : TyOk Tryd.prog 115 ⟨1, 8, .nilFunc, .other⟩ := ⟨by kernel_rfl, ⟨_, Tryd.underlying115, (fun h => h)⟩, rfl⟩
theorem ty_116 : TyOk Tryd.prog 116 ⟨1, 8, .nilFunc, .other⟩ := ⟨by kernel_rfl, ⟨_, Tryd.underlying116, (fun h => h)⟩, rfl⟩
theorem ty_117 : TyOk Tryd.prog 117 ⟨20, 160, .agg #[.int .u64 0, .int .u64 0, .int .u64 0, .int .u64 0, .int .u64 0, .int .u64 0, .int .u64 0, .int .u64 0, .int .u64 0, .int .u64 0, .int .u64 0, .int .u64 0, .int .u64 0, .int .u64 0, .int .u64 0, .int .u64 0, .int .u64 0, .int .u64 0, .int .u64 0, .int .u64 0], .array 20 104⟩ := ⟨by kernel_rfl, ⟨_, Tryd.underlying117, ⟨rfl, rfl⟩⟩, rfl⟩
theorem ty_118 : TyOk Tryd.prog 118 ⟨1, 4, .int .u32 0, .int .u32⟩ := ⟨by kernel_rfl, ⟨_, Tryd.underlying118, rfl⟩, rfl⟩
theorem ty_120 : TyOk Tryd.prog 120 ⟨1, 8, .nilFunc, .other⟩ := ⟨by kernel_rfl, ⟨_, Tryd.underlying120, (fun h => h)⟩, rfl⟩
theorem ty_121 : TyOk Tryd.prog 121 ⟨1, 8, .nilFunc, .other⟩ := ⟨by kernel_rfl, ⟨_, Tryd.underlying121, (fun h => h)⟩, rfl⟩
theorem ty_123 : TyOk Tryd.prog 123 ⟨2, 2, .agg #[.int .u8 0, .int .u8 0], .struct [(0, 5), (1, 5)]⟩ := ⟨by kernel_rfl, ⟨_, Tryd.underlying123, rfl⟩, rfl⟩
theorem ty_124 : TyOk Tryd.prog 124 ⟨2, 2, .agg #[.int .u8 0, .int .u8 0], .struct [(0, 5), (1, 5)]⟩ := ⟨by kernel_rfl, ⟨_, Tryd.underlying124, rfl⟩, rfl⟩
theorem ty_125 : TyOk Tryd.prog 125 ⟨32, 32, .agg #[.int .u8 0, .int .u8 0, .int .u8 0, .int .u8 0, .int .u8 0, .int .u8 0, .int .u8 0, .int .u8 0, .int .u8 0, .int .u8 0, .int .u8 0, .int .u8 0, .int .u8 0, .int .u8 0, .int .u8 0, .int .u8 0, .int .u8 0, .int .u8 0, .int .u8 0, .int .u8 0, .int .u8 0, .int .u8 0, .int .u8 0, .int .u8 0, .int .u8 0, .int .u8 0, .int .u8 0, .int .u8 0, .int .u8 0, .int .u8 0, .int .u8 0, .int .u8 0], .array 16 124⟩ := ⟨by kernel_rfl, ⟨_, Tryd.underlying125, ⟨rfl, rfl⟩⟩, rfl⟩
theorem ty_127 : TyOk Tryd.prog 127 ⟨1, 8, .nilFunc, .other⟩ := ⟨by kernel_rfl, ⟨_, Tryd.underlying127, (fun h => h)⟩, rfl⟩
theorem ty_128 : TyOk Tryd.prog 128 ⟨32, 32, .agg #[.int .u8 0, .int .u8 0, .int .u8 0, .int .u8 0, .int .u8 0, .int .u8 0, .int .u8 0, .int .u8 0, .int .u8 0, .int .u8 0, .int .u8 0, .int .u8 0, .int .u8 0, .int .u8 0, .int .u8 0, .int .u8 0, .int .u8 0, .int .u8 0, .int .u8 0, .int .u8 0, .int .u8 0, .int .u8 0, .int .u8 0, .int .u8 0, .int .u8 0, .int .u8 0, .int .u8 0, .int .u8 0, .int .u8 0, .int .u8 0, .int .u8 0, .int .u8 0], .array 32 5⟩ := ⟨by kernel_rfl, ⟨_, Tryd.underlying128, ⟨rfl, rfl⟩⟩, rfl⟩
theorem ty_130 : TyOk Tryd.prog 130 ⟨4, 40, .agg #[.pointer none, .pointer none, .pointer none, .string .empty], .struct [(0, 17), (1, 17), (2, 17), (3, 9)]⟩ := ⟨by kernel_rfl, ⟨_, Tryd.underlying130, rfl⟩, rfl⟩
theorem ty_131 : TyOk Tryd.prog 131 ⟨4, 40, .agg #[.pointer none, .pointer none, .pointer none, .string .empty], .struct [(0, 17), (1, 17), (2, 17), (3, 9)]⟩ := ⟨by kernel_rfl, ⟨_, Tryd.underlying131, rfl⟩, rfl⟩
theorem ty_132 : TyOk Tryd.prog 132 ⟨0, 0, .agg #[], .array 0 16⟩ := ⟨by kernel_rfl, ⟨_, Tryd.underlying132, ⟨rfl, rfl⟩⟩, rfl⟩
theorem ty_133 : TyOk Tryd.prog 133 ⟨0, 0, .agg #[], .struct [(0, 132)]⟩ := ⟨by kernel_rfl, ⟨_, Tryd.underlying133, rfl⟩, rfl⟩
theorem ty_134 : TyOk Tryd.prog 134 ⟨0, 0, .agg #[], .struct [(0, 132)]⟩ := ⟨by kernel_rfl, ⟨_, Tryd.underlying134, rfl⟩, rfl⟩
theorem ty_135 : TyOk Tryd.prog 135 ⟨1, 1, .int .u8 0, .int .u8⟩ := ⟨by kernel_rfl, ⟨_, Tryd.underlying135, rfl⟩, rfl⟩
theorem ty_136 : TyOk Tryd.prog 136 ⟨1, 1, .int .u8 0, .int .u8⟩ := ⟨by kernel_rfl, ⟨_, Tryd.underlying136, rfl⟩, rfl⟩
theorem ty_137 : TyOk Tryd.prog 137 ⟨1, 8, .nilFunc, .other⟩ := ⟨by kernel_rfl, ⟨_, Tryd.underlying137, (fun h => h)⟩, rfl⟩
theorem ty_138 : TyOk Tryd.prog 138 ⟨1, 4, .int .i32 0, .int .i32⟩ := ⟨by kernel_rfl, ⟨_, Tryd.underlying138, rfl⟩, rfl⟩
theorem ty_139 : TyOk Tryd.prog 139 ⟨1, 4, .int .i32 0, .int .i32⟩ := ⟨by kernel_rfl, ⟨_, Tryd.underlying139, rfl⟩, rfl⟩
theorem ty_140 : TyOk Tryd.prog 140 ⟨11, 48, .agg #[.int .u64 0, .int .u64 0, .int .u32 0, .int .u8 0, .int .u8 0, .int .u8 0, .int .u8 0, .nilFunc, .pointer none, .int .i32 0, .int .i32 0], .struct [(0, 12), (1, 12), (2, 118), (3, 135), (4, 5), (5, 5), (6, 136), (7, 137), (8, 83), (9, 138), (10, 139)]⟩ := ⟨by kernel_rfl, ⟨_, Tryd.underlying140, rfl⟩, rfl⟩
theorem ty_141 : TyOk Tryd.prog 141 ⟨11, 48, .agg #[.int .u64 0, .int .u64 0, .int .u32 0, .int .u8 0, .int .u8 0, .int .u8 0, .int .u8 0, .nilFunc, .pointer none, .int .i32 0, .int .i32 0], .struct [(0, 12), (1, 12), (2, 118), (3, 135), (4, 5), (5, 5), (6, 136), (7, 137), (8, 83), (9, 138), (10, 139)]⟩ := ⟨by kernel_rfl, ⟨_, Tryd.underlying141, rfl⟩, rfl⟩
def allTy (P : Program) : Nat → List (Option TI) → Prop
  | _, [] => True
  | k, none :: r => allTy P (k + 1) r
  | k, some ti :: r => TyOk P k ti ∧ allTy P (k + 1) r
theorem allTy_at {P : Program} : ∀ {l : List (Option TI)} {k : Nat}, allTy P k l → ∀ (t : Nat) (ti : TI), l[t]? = some (some ti) → TyOk P (k + t) ti
  | [], _, _, t, ti, h => by simp at h
  | none :: r, k, ha, t, ti, h => by
    cases t with
    | zero => simp at h
    | succ t =>
      have := allTy_at (l := r) (k := k + 1) ha t ti (by simpa using h)
      rw [show k + (t + 1) = k + 1 + t from by omega]
      exact this
  | some x :: r, k, ha, t, ti, h => by
    cases t with
    | zero => simp at h; subst h; exact ha.1
    | succ t =>
      have := allTy_at (l := r) (k := k + 1) ha.2 t ti (by simpa using h)
      rw [show k + (t + 1) = k + 1 + t from by omega]
      exact this
def tyTab : List (Option TI) := [none,
  some ⟨1, 8, .nilFunc, .other⟩,
  some ⟨1, 8, .int .i64 0, .int .i64⟩,
  some ⟨1, 8, .int .i64 0, .int .i64⟩,
  some ⟨1, 1, .bool false, .bool⟩,
  some ⟨1, 1, .int .u8 0, .int .u8⟩,
  some ⟨1, 1, .int .u8 0, .int .u8⟩,
  some ⟨4, 24, .agg #[.int .i64 0, .int .i64 0, .bool false, .int .u8 0], .struct [(0, 2), (1, 3), (2, 4), (3, 6)]⟩,
  some ⟨4, 24, .agg #[.int .i64 0, .int .i64 0, .bool false, .int .u8 0], .struct [(0, 2), (1, 3), (2, 4), (3, 6)]⟩,
  some ⟨1, 16, .string .empty, .str⟩,
  some ⟨1, 16, .string .empty, .str⟩,
  some ⟨1, 16, .string .empty, .str⟩,
  some ⟨1, 8, .int .u64 0, .int .u64⟩,
  some ⟨2, 24, .agg #[.string .empty, .int .u64 0], .struct [(0, 9), (1, 12)]⟩,
  some ⟨2, 24, .agg #[.string .empty, .int .u64 0], .struct [(0, 9), (1, 12)]⟩,
  some ⟨1, 8, .pointer none, .ptr⟩,
  some ⟨1, 8, .pointer none, .ptr⟩,
  some ⟨1, 8, .pointer none, .ptr⟩,
  some ⟨1, 8, .agg #[.pointer none], .struct [(0, 17)]⟩,
  some ⟨1, 8, .agg #[.pointer none], .struct [(0, 17)]⟩,
  some ⟨1, 16, .nilIface, .iface⟩,
  some ⟨1, 4, .int .i32 0, .int .i32⟩,
  some ⟨1, 8, .nilFunc, .other⟩,
  some ⟨1, 24, .slice none 0 0, .slice 45⟩,
  some ⟨2, 32, .agg #[.int .i64 0, .slice none 0 0], .struct [(0, 3), (1, 23)]⟩,
  some ⟨2, 32, .agg #[.int .i64 0, .slice none 0 0], .struct [(0, 3), (1, 23)]⟩,
  some ⟨1, 8, .nilFunc, .other⟩,
  some ⟨1, 16, .nilIface, .iface⟩,
  some ⟨1, 16, .nilIface, .iface⟩,
  some ⟨1, 8, .nilFunc, .other⟩,
  some ⟨1, 8, .nilFunc, .other⟩,
  some ⟨1, 8, .nilFunc, .other⟩,
  some ⟨1, 8, .nilFunc, .other⟩,
  none,
  some ⟨1, 8, .nilFunc, .other⟩,
  some ⟨1, 8, .nilFunc, .other⟩,
  some ⟨1, 24, .slice none 0 0, .slice 3⟩,
  some ⟨1, 8, .nilFunc, .other⟩,
  some ⟨1, 8, .nilFunc, .other⟩,
  some ⟨1, 8, .nilFunc, .other⟩,
  some ⟨1, 8, .nilFunc, .other⟩,
  some ⟨1, 8, .nilFunc, .other⟩,
  some ⟨1, 8, .nilFunc, .other⟩,
  some ⟨1, 24, .slice none 0 0, .slice 54⟩,
  some ⟨2, 32, .agg #[.slice none 0 0, .int .i64 0], .struct [(0, 43), (1, 3)]⟩,
  some ⟨2, 32, .agg #[.slice none 0 0, .int .i64 0], .struct [(0, 43), (1, 3)]⟩,
  some ⟨1, 8, .nilFunc, .other⟩,
  none,
  some ⟨1, 8, .nilFunc, .other⟩,
  none,
  some ⟨1, 8, .nilFunc, .other⟩,
  some ⟨1, 8, .nilFunc, .other⟩,
  some ⟨1, 8, .nilFunc, .other⟩,
  some ⟨2, 16, .agg #[.int .i64 0, .int .i64 0], .struct [(0, 3), (1, 3)]⟩,
  some ⟨2, 16, .agg #[.int .i64 0, .int .i64 0], .struct [(0, 3), (1, 3)]⟩,
  some ⟨1, 8, .int .i64 0, .int .i64⟩,
  none,
  some ⟨1, 8, .nilFunc, .other⟩,
  some ⟨1, 8, .pointer none, .ptr⟩,
  some ⟨1, 24, .slice none 0 0, .slice 5⟩,
  some ⟨2, 32, .agg #[.pointer none, .slice none 0 0], .struct [(0, 58), (1, 59)]⟩,
  some ⟨2, 32, .agg #[.pointer none, .slice none 0 0], .struct [(0, 58), (1, 59)]⟩,
  none,
  some ⟨1, 8, .nilFunc, .other⟩,
  some ⟨1, 8, .nilFunc, .other⟩,
  some ⟨1, 8, .nilFunc, .other⟩,
  some ⟨1, 8, .nilFunc, .other⟩,
  some ⟨1, 8, .nilFunc, .other⟩,
  some ⟨1, 8, .nilFunc, .other⟩,
  some ⟨1, 8, .nilFunc, .other⟩,
  some ⟨1, 8, .nilFunc, .other⟩,
  some ⟨1, 8, .nilFunc, .other⟩,
  some ⟨1, 8, .nilFunc, .other⟩,
  some ⟨1, 8, .nilFunc, .other⟩,
  some ⟨1, 8, .nilFunc, .other⟩,
  some ⟨1, 24, .slice none 0 0, .slice 9⟩,
  some ⟨1, 8, .nilFunc, .other⟩,
  none,
  some ⟨1, 8, .nilFunc, .other⟩,
  none,
  some ⟨1, 8, .nilFunc, .other⟩,
  none,
  some ⟨1, 8, .nilFunc, .other⟩,
  some ⟨1, 8, .pointer none, .ptr⟩,
  some ⟨1, 8, .nilFunc, .other⟩,
  some ⟨1, 8, .nilFunc, .other⟩,
  some ⟨1, 8, .nilFunc, .other⟩,
  some ⟨1, 8, .nilFunc, .other⟩,
  some ⟨1, 8, .nilFunc, .other⟩,
  none,
  some ⟨1, 8, .nilFunc, .other⟩,
  none,
  some ⟨1, 8, .nilFunc, .other⟩,
  some ⟨1, 8, .nilFunc, .other⟩,
  none,
  some ⟨1, 8, .nilFunc, .other⟩,
  none,
  some ⟨1, 8, .nilFunc, .other⟩,
  some ⟨1, 8, .nilFunc, .other⟩,
  some ⟨1, 8, .nilFunc, .other⟩,
  some ⟨1, 8, .nilFunc, .other⟩,
  some ⟨1, 8, .nilFunc, .other⟩,
  some ⟨1, 8, .nilFunc, .other⟩,
  some ⟨24, 24, .agg #[.int .u8 0, .int .u8 0, .int .u8 0, .int .u8 0, .int .u8 0, .int .u8 0, .int .u8 0, .int .u8 0, .int .u8 0, .int .u8 0, .int .u8 0, .int .u8 0, .int .u8 0, .int .u8 0, .int .u8 0, .int .u8 0, .int .u8 0, .int .u8 0, .int .u8 0, .int .u8 0, .int .u8 0, .int .u8 0, .int .u8 0, .int .u8 0], .array 24 5⟩,
  some ⟨1, 8, .int .u64 0, .int .u64⟩,
  some ⟨1, 8, .nilFunc, .other⟩,
  some ⟨1, 8, .nilFunc, .other⟩,
  none,
  some ⟨1, 8, .nilFunc, .other⟩,
  some ⟨1, 8, .int .u64 0, .int .u64⟩,
  some ⟨1, 8, .nilFunc, .other⟩,
  none,
  some ⟨1, 8, .nilFunc, .other⟩,
  some ⟨1, 8, .nilFunc, .other⟩,
  some ⟨1, 8, .nilFunc, .other⟩,
  some ⟨1, 8, .nilFunc, .other⟩,
  some ⟨1, 8, .nilFunc, .other⟩,
  some ⟨20, 160, .agg #[.int .u64 0, .int .u64 0, .int .u64 0, .int .u64 0, .int .u64 0, .int .u64 0, .int .u64 0, .int .u64 0, .int .u64 0, .int .u64 0, .int .u64 0, .int .u64 0, .int .u64 0, .int .u64 0, .int .u64 0, .int .u64 0, .int .u64 0, .int .u64 0, .int .u64 0, .int .u64 0], .array 20 104⟩,
  some ⟨1, 4, .int .u32 0, .int .u32⟩,
  none,
  some ⟨1, 8, .nilFunc, .other⟩,
  some ⟨1, 8, .nilFunc, .other⟩,
  none,
  some ⟨2, 2, .agg #[.int .u8 0, .int .u8 0], .struct [(0, 5), (1, 5)]⟩,
  some ⟨2, 2, .agg #[.int .u8 0, .int .u8 0], .struct [(0, 5), (1, 5)]⟩,
  some ⟨32, 32, .agg #[.int .u8 0, .int .u8 0, .int .u8 0, .int .u8 0, .int .u8 0, .int .u8 0, .int .u8 0, .int .u8 0, .int .u8 0, .int .u8 0, .int .u8 0, .int .u8 0, .int .u8 0, .int .u8 0, .int .u8 0, .int .u8 0, .int .u8 0, .int .u8 0, .int .u8 0, .int .u8 0, .int .u8 0, .int .u8 0, .int .u8 0, .int .u8 0, .int .u8 0, .int .u8 0, .int .u8 0, .int .u8 0, .int .u8 0, .int .u8 0, .int .u8 0, .int .u8 0], .array 16 124⟩,
  none,
  some ⟨1, 8, .nilFunc, .other⟩,
  some ⟨32, 32, .agg #[.int .u8 0, .int .u8 0, .int .u8 0, .int .u8 0, .int .u8 0, .int .u8 0, .int .u8 0, .int .u8 0, .int .u8 0, .int .u8 0, .int .u8 0, .int .u8 0, .int .u8 0, .int .u8 0, .int .u8 0, .int .u8 0, .int .u8 0, .int .u8 0, .int .u8 0, .int .u8 0, .int .u8 0, .int .u8 0, .int .u8 0, .int .u8 0, .int .u8 0, .int .u8 0, .int .u8 0, .int .u8 0, .int .u8 0, .int .u8 0, .int .u8 0, .int .u8 0], .array 32 5⟩,
  none,
  some ⟨4, 40, .agg #[.pointer none, .pointer none, .pointer none, .string .empty], .struct [(0, 17), (1, 17), (2, 17), (3, 9)]⟩,
  some ⟨4, 40, .agg #[.pointer none, .pointer none, .pointer none, .string .empty], .struct [(0, 17), (1, 17), (2, 17), (3, 9)]⟩,
  some ⟨0, 0, .agg #[], .array 0 16⟩,
  some ⟨0, 0, .agg #[], .struct [(0, 132)]⟩,
  some ⟨0, 0, .agg #[], .struct [(0, 132)]⟩,
  some ⟨1, 1, .int .u8 0, .int .u8⟩,
  some ⟨1, 1, .int .u8 0, .int .u8⟩,
  some ⟨1, 8, .nilFunc, .other⟩,
  some ⟨1, 4, .int .i32 0, .int .i32⟩,
  some ⟨1, 4, .int .i32 0, .int .i32⟩,
  some ⟨11, 48, .agg #[.int .u64 0, .int .u64 0, .int .u32 0, .int .u8 0, .int .u8 0, .int .u8 0, .int .u8 0, .nilFunc, .pointer none, .int .i32 0, .int .i32 0], .struct [(0, 12), (1, 12), (2, 118), (3, 135), (4, 5), (5, 5), (6, 136), (7, 137), (8, 83), (9, 138), (10, 139)]⟩,
  some ⟨11, 48, .agg #[.int .u64 0, .int .u64 0, .int .u32 0, .int .u8 0, .int .u8 0, .int .u8 0, .int .u8 0, .nilFunc, .pointer none, .int .i32 0, .int .i32 0], .struct [(0, 12), (1, 12), (2, 118), (3, 135), (4, 5), (5, 5), (6, 136), (7, 137), (8, 83), (9, 138), (10, 139)]⟩]
theorem tyAll : allTy Tryd.prog 0 tyTab := ⟨ty_1, ty_2, ty_3, ty_4, ty_5, ty_6, ty_7, ty_8, ty_9, ty_10, ty_11, ty_12, ty_13, ty_14, ty_15, ty_16, ty_17, ty_18, ty_19, ty_20, ty_21, ty_22, ty_23, ty_24, ty_25, ty_26, ty_27, ty_28, ty_29, ty_30, ty_31, ty_32, ty_34, ty_35, ty_36, ty_37, ty_38, ty_39, ty_40, ty_41, ty_42, ty_43, ty_44, ty_45, ty_46, ty_48, ty_50, ty_51, ty_52, ty_53, ty_54, ty_55, ty_57, ty_58, ty_59, ty_60, ty_61, ty_63, ty_64, ty_65, ty_66, ty_67, ty_68, ty_69, ty_70, ty_71, ty_72, ty_73, ty_74, ty_75, ty_76, ty_78, ty_80, ty_82, ty_83, ty_84, ty_85, ty_86, ty_87, ty_88, ty_90, ty_92, ty_93, ty_95, ty_97, ty_98, ty_99, ty_100, ty_101, ty_102, ty_103, ty_104, ty_105, ty_106, ty_108, ty_109, ty_110, ty_112, ty_113, ty_114, ty_115, ty_116, ty_117, ty_118, ty_120, ty_121, ty_123, ty_124, ty_125, ty_127, ty_128, ty_130, ty_131, ty_132, ty_133, ty_134, ty_135, ty_136, ty_137, ty_138, ty_139, ty_140, ty_141, trivial⟩
theorem tyTab_ok (t : Nat) (ti : TI) (h : tyTab[t]? = some (some ti)) : TyOk Tryd.prog t ti := by
  have := allTy_at tyAll t ti h
  rwa [Nat.zero_add] at this
end Go.Proofs.YticdfbhbbapbdaaDoor.Am
/- The abstract machine: cells of numbers, facts, nogoods. -/
namespace Go.Proofs.YticdfbhbbapbdaaDoor.Am
open Go.RowKit

def cI (z : Int) : List AV := [.c (.int .i64 z)]
def cF (x : Fact) : List AV := [.c (.int .i64 x.1), .c (.int .i64 x.2)]
def cN (x : Nogood) : List AV := [.sl 2 (x.1.map cF), .c (.int .i64 x.2)]
theorem wrap_eq {z : Int} (h1 : -9223372036854775808 ≤ z) (h2 : z ≤ 9223372036854775807) : IntKind.i64.wrap z = z := by
  rw [IntKind.wrap_i64]
  omega
theorem map_at {α β : Type} {l : List α} {f : α → β} {k : Nat} {x : α} (h : l[k]? = some x) : (l.map f)[((k : Nat) : Int).toNat]? = some (f x) := by
  rw [Int.toNat_natCast, List.getElem?_map, h]
  rfl
theorem map_at' {α β : Type} {l : List α} {f : α → β} {k : Nat} {x : α} (h : l[k]? = some x) : (l.map f)[k]? = some (f x) := by
  rw [List.getElem?_map, h]
  rfl
theorem FrL_map {α : Type} {l : List α} {f : α → List AV} (h : ∀ x ∈ l, ∀ y ∈ f x, Fr y) : FrL (l.map f) := by
  intro e he y hy
  obtain ⟨x, hx, rfl⟩ := List.mem_map.1 he
  exact h x hx y hy
theorem fr_cF (x : Fact) : ∀ y ∈ cF x, Fr y := by
  intro y hy
  simp [cF] at hy
  rcases hy with rfl | rfl <;> exact .c _
theorem frl_cF (l : List Fact) : FrL (l.map cF) := FrL_map (fun x _ => fr_cF x)
theorem fr_cN (x : Nogood) : ∀ y ∈ cN x, Fr y := by
  intro y hy
  simp [cN] at hy
  rcases hy with rfl | rfl
  · exact .sl (frl_cF _)
  · exact .c _
theorem frl_cN (l : List Nogood) : FrL (l.map cN) := FrL_map (fun x _ => fr_cN x)
theorem frl_cI (l : List Int) : FrL (l.map cI) := FrL_map (fun x _ y hy => by simp [cI] at hy; subst hy; exact .c _)
theorem FrL_append {a b : List (List AV)} (h1 : FrL a) (h2 : FrL b) : FrL (a ++ b) := by
  intro e he
  rcases List.mem_append.1 he with h | h
  · exact h1 e h
  · exact h2 e h

theorem get_map {α β : Type} {l : List α} {f : α → β} {k : Nat} {e : β} (h : (l.map f)[k]? = some e) : ∃ x, l[k]? = some x ∧ e = f x := by
  rw [List.getElem?_map] at h
  cases hx : l[k]? with
  | none => rw [hx] at h; cases h
  | some x => rw [hx] at h; simp at h; exact ⟨x, rfl, h.symm⟩

end Go.Proofs.YticdfbhbbapbdaaDoor.Am
/- Words of the models that my decompiler prints, and what their proofs use: choices, guards, elements, calls, parts of code. -/
namespace Go.Proofs.YticdfbhbbapbdaaDoor.Am
open Go.RowKit

def sel {α : Type} (b : Bool) (x y : Option α) : Option α :=
  match b with
  | true => x
  | false => y
def grd {α : Type} (p : Prop) [Decidable p] (x : Option α) : Option α := if p then x else none
def ixn {α β : Type} (l : List α) (i : Nat) (k : α → Option β) : Option β :=
  match l[i]? with
  | some y => k y
  | none => none
def ix {α β : Type} (l : List α) (i : Int) (k : α → Option β) : Option β := ixn l i.toNat (fun y => grd (0 ≤ i) (k y))
def ob0 {β : Type} (x : Option Unit) (k : Unit → Option β) : Option β :=
  match x with
  | some u => k u
  | none => none
def ob1 {α β : Type} (x : Option α) (k : α → Option β) : Option β :=
  match x with
  | some a => k a
  | none => none
def ob2 {α β γ : Type} (x : Option (α × β)) (k : α → β → Option γ) : Option γ :=
  match x with
  | some (a, b) => k a b
  | none => none
def ob3 {α β γ δ : Type} (x : Option (α × β × γ)) (k : α → β → γ → Option δ) : Option δ :=
  match x with
  | some (a, b, c) => k a b c
  | none => none
def ob4 {α β γ δ ε : Type} (x : Option (α × β × γ × δ)) (k : α → β → γ → δ → Option ε) : Option ε :=
  match x with
  | some (a, b, c, d) => k a b c d
  | none => none
def osum {α β γ : Type} (f : α → Option γ) (g : β → Option γ) : α ⊕ β → Option γ
  | .inl a => f a
  | .inr b => g b
/-- errors: none, or one of the document's by its number -/
inductive Er where
  | nil
  | no (z : Int)
  deriving DecidableEq
def eA : Er → AV
  | .nil => .c .nilIface
  | .no z => .ifc 55 (.c (.int .i64 z))
def erM {α : Type} (e : Er) (x : Option α) (k : Int → Option α) : Option α :=
  match e with
  | .nil => x
  | .no z => k z
/-- a byte of a text -/
abbrev byt (s : ByteArray) (i : Int) : Int := ((s.data.getD i.toNat 0).toNat : Int)

section
variable {α β γ δ ε : Type}
theorem sel_t {b : Bool} {x y z : Option α} (hb : b = true) (h : sel b x y = z) : x = z := by subst hb; exact h
theorem sel_f {b : Bool} {x y z : Option α} (hb : b = false) (h : sel b x y = z) : y = z := by subst hb; exact h
theorem spl {b : Bool} {x y z : Option α} {P Q : Prop} (h : sel b x y = z) (t : b = true → x = z → P) (f : b = false → y = z → Q) : (b = true → P) ∧ (b = false → Q) := ⟨fun hb => t hb (sel_t hb h), fun hb => f hb (sel_f hb h)⟩
theorem spf {b : Bool} {x y z : Option α} {P Q : Prop} (h : sel b x y = z) (f : b = false → y = z → Q) (t : b = true → x = z → P) : (b = false → Q) ∧ (b = true → P) := ⟨fun hb => f hb (sel_f hb h), fun hb => t hb (sel_t hb h)⟩
theorem litT {P Q : Prop} (h : P) : (true = true → P) ∧ (true = false → Q) := ⟨fun _ => h, fun e => (by cases e)⟩
theorem litF {P Q : Prop} (h : Q) : (false = true → P) ∧ (false = false → Q) := ⟨fun e => (by cases e), fun _ => h⟩
theorem litFf {P Q : Prop} (h : P) : (false = false → P) ∧ (false = true → Q) := ⟨fun _ => h, fun e => (by cases e)⟩
theorem litTf {P Q : Prop} (h : Q) : (true = false → P) ∧ (true = true → Q) := ⟨fun e => (by cases e), fun _ => h⟩
theorem grd_ok {p : Prop} [Decidable p] {x : Option α} {z : α} (h : grd p x = some z) : p ∧ x = some z := by
  unfold grd at h
  split at h
  · exact ⟨by assumption, h⟩
  · cases h
theorem ixn_ok {l : List α} {i : Nat} {k : α → Option β} {z : β} (h : ixn l i k = some z) : ∃ y, l[i]? = some y ∧ k y = some z := by
  unfold ixn at h
  split at h
  · exact ⟨_, by assumption, h⟩
  · cases h
theorem ix_ok {l : List α} {i : Int} {k : α → Option β} {z : β} (h : ix l i k = some z) : ∃ y, l[i.toNat]? = some y ∧ 0 ≤ i ∧ k y = some z := by
  obtain ⟨y, h1, h2⟩ := ixn_ok h
  obtain ⟨h3, h4⟩ := grd_ok h2
  exact ⟨y, h1, h3, h4⟩
theorem ob0_ok {x : Option Unit} {k : Unit → Option β} {z : β} (h : ob0 x k = some z) : x = some () ∧ k () = some z := by
  match x, h with
  | some (), h => exact ⟨rfl, h⟩
theorem ob1_ok {x : Option α} {k : α → Option β} {z : β} (h : ob1 x k = some z) : ∃ a, x = some a ∧ k a = some z := by
  match x, h with
  | some a, h => exact ⟨a, rfl, h⟩
theorem ob2_ok {x : Option (α × β)} {k : α → β → Option γ} {z : γ} (h : ob2 x k = some z) : ∃ a b, x = some (a, b) ∧ k a b = some z := by
  match x, h with
  | some (a, b), h => exact ⟨a, b, rfl, h⟩
theorem ob3_ok {x : Option (α × β × γ)} {k : α → β → γ → Option δ} {z : δ} (h : ob3 x k = some z) : ∃ a b c, x = some (a, b, c) ∧ k a b c = some z := by
  match x, h with
  | some (a, b, c), h => exact ⟨a, b, c, rfl, h⟩
theorem ob4_ok {x : Option (α × β × γ × δ)} {k : α → β → γ → δ → Option ε} {z : ε} (h : ob4 x k = some z) : ∃ a b c d, x = some (a, b, c, d) ∧ k a b c d = some z := by
  match x, h with
  | some (a, b, c, d), h => exact ⟨a, b, c, d, rfl, h⟩
theorem osum_l {f : α → Option γ} {g : β → Option γ} {a : α} {z : Option γ} (h : osum f g (.inl a) = z) : f a = z := h
theorem osum_r {f : α → Option γ} {g : β → Option γ} {b : β} {z : Option γ} (h : osum f g (.inr b) = z) : g b = z := h
theorem erM_nil {x : Option α} {k : Int → Option α} {z : Option α} (h : erM .nil x k = z) : x = z := h
theorem erM_no {x : Option α} {k : Int → Option α} {e : Int} {z : Option α} (h : erM (.no e) x k = z) : k e = z := h
theorem succ_of {f : Nat → Option α} {n : Nat} {o : α} (h0 : f 0 = none) (h : f n = some o) : ∃ k, n = k + 1 ∧ f (k + 1) = some o := by
  cases n with
  | zero => rw [h0] at h; cases h
  | succ k => exact ⟨k, rfl, h⟩
theorem lt_of_succ {n k : Nat} (h : n = k + 1) : k < n := by omega
theorem inj1 {a b : α} (h : some a = some b) : a = b := Option.some.inj h
theorem inj2 {a a' : α} {b b' : β} (h : some (a, b) = some (a', b')) : a = a' ∧ b = b' := by injection h with h; injection h with h1 h2; exact ⟨h1, h2⟩
theorem inj3 {a a' : α} {b b' : β} {c c' : γ} (h : some (a, b, c) = some (a', b', c')) : a = a' ∧ b = b' ∧ c = c' := by injection h with h; injection h with h1 h2; injection h2 with h2 h3; exact ⟨h1, h2, h3⟩
theorem inj4 {a a' : α} {b b' : β} {c c' : γ} {d d' : δ} (h : some (a, b, c, d) = some (a', b', c', d')) : a = a' ∧ b = b' ∧ c = c' ∧ d = d' := by
  injection h with h; injection h with h1 h2; injection h2 with h2 h3; injection h3 with h3 h4; exact ⟨h1, h2, h3, h4⟩
end

section
variable {C : Cx} {Q : Exit → St → Prop} {s : St}
/-- a part of the code on its own: behind it stands one of the states of a family -/
theorem awp_cut {α : Type} {x y : Code} (I : α → St) (P : α → Prop) (h1 : AWP C x (thenA (fun s' => ∃ v, P v ∧ leK s' (I v) True) Q) s)
    (h2 : ∀ v, P v → forceK (I v).tm (fun tm => forceK (I v).hp (fun hp => True → AWP C y Q ⟨tm, hp⟩))) : AWP C (.seq x y) Q s := by
  refine awp_seq (awp_mono h1 (fun e s' h => ?_))
  cases e <;> first | exact h | skip
  obtain ⟨v, hp, hl⟩ := h
  have h3 := forceK_ok (forceK_ok (h2 v hp)) trivial
  exact awp_le hl h3
end

/-- no handle of the call's own -/
theorem FrL_nil : FrL [] := fun e he => by cases he
theorem FrL_cons {e : List AV} {l : List (List AV)} (h1 : ∀ y ∈ e, Fr y) (h2 : FrL l) : FrL (e :: l) := by
  intro a ha
  rcases List.mem_cons.1 ha with rfl | h
  · exact h1
  · exact h2 a h
theorem FrC_nil : ∀ y ∈ ([] : List AV), Fr y := fun y hy => by cases hy
theorem FrC_cons {x : AV} {r : List AV} (h1 : Fr x) (h2 : ∀ y ∈ r, Fr y) : ∀ y ∈ x :: r, Fr y := by
  intro a ha
  rcases List.mem_cons.1 ha with rfl | h
  · exact h1
  · exact h2 a h
theorem FrL_set {l : List (List AV)} {k : Nat} {e : List AV} (h1 : FrL l) (h2 : ∀ y ∈ e, Fr y) : FrL (l.set k e) := by
  intro a ha
  rcases List.mem_or_eq_of_mem_set ha with h | rfl
  · exact h1 a h
  · exact h2
theorem fr_eA (e : Er) : Fr (eA e) := by
  cases e
  · exact .c _
  · exact .ifc (.c _)
theorem fr0_eA (e : Er) : fr0 (eA e) := by cases e <;> first | trivial | exact .ifc (.c _)
theorem fr1_eA (e : Er) : fr1 (eA e) := by cases e <;> first | trivial | exact .ifc (.c _)
theorem fr1_fr {x : AV} (h : Fr x) : fr1 x := by
  cases h with
  | agg h =>
    rename_i cs
    show frs0 cs
    induction cs with
    | nil => trivial
    | cons y r ih => exact ⟨by have := h y (by simp); unfold fr0; split <;> first | trivial | exact this, ih (fun z hz => h z (by simp [hz]))⟩
  | tup h =>
    rename_i cs
    show frs0 cs
    induction cs with
    | nil => trivial
    | cons y r ih => exact ⟨by have := h y (by simp); unfold fr0; split <;> first | trivial | exact this, ih (fun z hz => h z (by simp [hz]))⟩
  | c v => trivial
  | sl h => trivial
  | pim h => exact .pim h
  | clo h1 h2 => exact .clo h1 h2
  | ifc h => exact .ifc h
theorem take_len_map {α β : Type} {l : List α} {f : α → β} : (l.map f).take l.length = l.map f := List.take_of_length_le (Nat.le_of_eq (List.length_map _))
/-- the same, found by instances -/
class FrI (l : List (List AV)) : Prop where
  h : FrL l
class FrE (e : List AV) : Prop where
  h : ∀ y ∈ e, Fr y
class FrV (x : AV) : Prop where
  h : Fr x
instance : FrI [] := ⟨FrL_nil⟩
instance {e : List AV} {l : List (List AV)} [a : FrE e] [b : FrI l] : FrI (e :: l) := ⟨FrL_cons a.h b.h⟩
instance {l r : List (List AV)} [a : FrI l] [b : FrI r] : FrI (l ++ r) := ⟨FrL_append a.h b.h⟩
instance {l : List (List AV)} {k : Nat} {e : List AV} [a : FrI l] [b : FrE e] : FrI (l.set k e) := ⟨FrL_set a.h b.h⟩
instance {l : List (List AV)} {k : Nat} [a : FrI l] : FrI (l.take k) := ⟨fun e he => a.h e (List.mem_of_mem_take he)⟩
instance {l : List (List AV)} {k : Nat} [a : FrI l] : FrI (l.drop k) := ⟨fun e he => a.h e (List.mem_of_mem_drop he)⟩
instance : FrE [] := ⟨FrC_nil⟩
instance {x : AV} {r : List AV} [a : FrV x] [b : FrE r] : FrE (x :: r) := ⟨FrC_cons a.h b.h⟩
instance {v : Value} : FrV (.c v) := ⟨.c v⟩
instance {sz : Nat} {l : List (List AV)} [a : FrI l] : FrV (.sl sz l) := ⟨.sl a.h⟩
instance {t : Nat} {x : AV} [a : FrV x] : FrV (.ifc t x) := ⟨.ifc a.h⟩
instance {e : Er} : FrV (eA e) := ⟨fr_eA e⟩
instance {cs : List AV} [a : FrE cs] : FrV (.agg cs) := ⟨.agg a.h⟩
instance {e : List AV} {j : Nat} [a : FrE e] : FrV (.pim e j) := ⟨.pim a.h⟩
instance {f : Fn} {cs ds : List AV} [a : FrE cs] [b : FrE ds] : FrV (.clo f cs ds) := ⟨.clo a.h b.h⟩
instance {l : List Fact} : FrI (l.map cF) := ⟨frl_cF l⟩
instance {l : List Nogood} : FrI (l.map cN) := ⟨frl_cN l⟩
instance {l : List Int} : FrI (l.map cI) := ⟨frl_cI l⟩
theorem fr_cI (z : Int) : ∀ y ∈ cI z, Fr y := FrC_cons (.c _) FrC_nil
def cS (x : ByteArray) : List AV := [.c (.string x)]
theorem fr_cS (x : ByteArray) : ∀ y ∈ cS x, Fr y := FrC_cons (.c _) FrC_nil
theorem frl_cS (l : List ByteArray) : FrL (l.map cS) := FrL_map (fun x _ => fr_cS x)
instance {l : List ByteArray} : FrI (l.map cS) := ⟨frl_cS l⟩
def cB (x : Bool) : List AV := [.c (.bool x)]
theorem fr_cB (x : Bool) : ∀ y ∈ cB x, Fr y := FrC_cons (.c _) FrC_nil
theorem frl_cB (l : List Bool) : FrL (l.map cB) := FrL_map (fun x _ => fr_cB x)
instance {l : List Bool} : FrI (l.map cB) := ⟨frl_cB l⟩
def c_u8 (x : Int) : List AV := [.c (.int .u8 x)]
theorem fr_c_u8 (x : Int) : ∀ y ∈ c_u8 x, Fr y := FrC_cons (.c _) FrC_nil
theorem frl_c_u8 (l : List Int) : FrL (l.map c_u8) := FrL_map (fun x _ => fr_c_u8 x)
instance {l : List Int} : FrI (l.map c_u8) := ⟨frl_c_u8 l⟩
/-- the bytes of a text as numbers -/
def bys (s : ByteArray) : List Int := s.data.toList.map (fun c => (c.toNat : Int))
end Go.Proofs.YticdfbhbbapbdaaDoor.Am
/- An abstract machine (4): calls that get own memory (lent, or given away), closures, make, equality of structs of two numbers. -/
namespace Go.Proofs.YticdfbhbbapbdaaDoor.Am
open Go.RowKit
/-- some blocks are no more -/
def dropB (η : Nat → Ent) (bs : List Nat) : Nat → Ent := fun i => if i ∈ bs then ⟨(η i).ver, none⟩ else η i
theorem drop_in {η : Nat → Ent} {bs : List Nat} {i : Nat} (h : i ∈ bs) : (dropB η bs i).blk = none := by simp [dropB, h]
theorem drop_out {η : Nat → Ent} {bs : List Nat} {i : Nat} (h : i ∉ bs) : dropB η bs i = η i := by simp [dropB, h]
theorem in_of_drop {η : Nat → Ent} {bs : List Nat} {i ver : Nat} {B : Blk} (h1 : η i = ⟨ver, some B⟩) (h2 : (dropB η bs i).blk = none) : i ∈ bs := by
  by_cases h : i ∈ bs
  · exact h
  · rw [drop_out h, h1] at h2; cases h2
theorem BW.congr {η η1 : Nat → Ent} {bs : List Nat} (h : ∀ i ∈ bs, η1 i = η i) {x y : AV} (hb : BW η (dropB η bs) x y) : BW η1 (dropB η1 bs) x y := by
  induction hb with
  | fr h => exact .fr h
  | sl => exact .sl
  | nil => exact .nil
  | own h1 h2 hs hl hl2 _ hkl hfr hmax he ih =>
    have hi := in_of_drop h1 h2
    exact .own (by rw [h _ hi, h1]) (drop_in hi) hs hl hl2 ih hkl hfr hmax he
  | ptr h1 h2 he hl _ ih =>
    have hi := in_of_drop h1 h2
    exact .ptr (by rw [h _ hi, h1]) (drop_in hi) he hl ih
  | agg hl _ ih => exact .agg hl ih
  | clo hl _ hl2 _ ih ih2 => exact .clo hl ih hl2 ih2
/-- what it becomes holds no own memory -/
theorem BW.free {η η' : Nat → Ent} {w : World} {vs : Shp} {m : MM} {x y : AV} (hb : BW η η' x y) : ∀ {v : Value}, RV w vs m y v → Fr y := by
  induction hb with
  | fr h => exact fun _ => h
  | sl =>
    intro v hv
    obtain ⟨_, _, _, _, _, _, _, _, _, _, _, _, hfr⟩ := rv_sl hv
    exact .sl hfr
  | nil => exact fun _ => .sl FrL_nil
  | own h1 h2 hs hl hl2 _ hkl hfr hmax he ih => intro v hv; rw [he]; exact .sl (fun e he' => hfr e (List.mem_of_mem_drop (List.mem_of_mem_take he')))
  | @ptr i ver k j0 B e e' h1 h2 he hl _ ih =>
    intro v hv
    obtain ⟨b, off, f, _, _, _, _, hr⟩ := rv_pim hv
    refine .pim (fun x' hx' => ?_)
    obtain ⟨j, hj⟩ := List.getElem?_of_mem hx'
    have hlt : j < e.length := by rw [← hl]; exact (List.getElem?_eq_some_iff.1 hj).1
    exact ih j _ x' (List.getElem?_eq_getElem hlt) hj (hr j x' hj)
  | agg hl _ ih =>
    intro v hv
    obtain ⟨us, rfl, hlen, hr⟩ := rv_agg hv
    refine .agg (fun x' hx' => ?_)
    obtain ⟨j, hj⟩ := List.getElem?_of_mem hx'
    have hlt := (List.getElem?_eq_some_iff.1 hj).1
    exact ih j _ x' (List.getElem?_eq_getElem (by omega)) hj (hr j x' us[j] hj (Array.getElem?_eq_getElem (by omega)))
  | clo hl _ hl2 _ ih ih2 =>
    intro v hv
    obtain ⟨us, us', rfl, l1, r1, l2, r2⟩ := rv_clo hv
    refine .clo (fun x' hx' => ?_) (fun x' hx' => ?_)
    · obtain ⟨j, hj⟩ := List.getElem?_of_mem hx'
      have hlt := (List.getElem?_eq_some_iff.1 hj).1
      exact ih j _ x' (List.getElem?_eq_getElem (by omega)) hj (r1 j x' us[j] hj (Array.getElem?_eq_getElem (by omega)))
    · obtain ⟨j, hj⟩ := List.getElem?_of_mem hx'
      have hlt := (List.getElem?_eq_some_iff.1 hj).1
      exact ih2 j _ x' (List.getElem?_eq_getElem (by omega)) hj (r2 j x' us'[j] hj (Array.getElem?_eq_getElem (by omega)))
/-- lists of such values -/
inductive BWL (η η' : Nat → Ent) : List AV → List AV → Prop
  | nil : BWL η η' [] []
  | cons {x y : AV} {r s : List AV} : BW η η' x y → BWL η η' r s → BWL η η' (x :: r) (y :: s)
section
variable {η η' : Nat → Ent}
theorem BWL.len {xs ys : List AV} (h : BWL η η' xs ys) : xs.length = ys.length := by
  induction h with
  | nil => rfl
  | cons _ _ ih => simp [ih]
theorem BWL.at {xs ys : List AV} (h : BWL η η' xs ys) : ∀ (j : Nat) (x y : AV), xs[j]? = some x → ys[j]? = some y → BW η η' x y := by
  induction h with
  | nil => intro j x y hx; simp at hx
  | cons h1 _ ih =>
    intro j x y hx hy
    cases j with
    | zero => simp at hx hy; subst hx hy; exact h1
    | succ j => exact ih j x y (by simpa using hx) (by simpa using hy)
def BWLL (η η' : Nat → Ent) (els els' : List (List AV)) : Prop := els'.length = els.length ∧ ∀ (k : Nat) (e e' : List AV), els[k]? = some e → els'[k]? = some e' → e'.length = e.length ∧ ∀ (j : Nat) (x x' : AV), e[j]? = some x → e'[j]? = some x' → BW η η' x x'
theorem bwll_fr {els : List (List AV)} (h : FrL els) : BWLL η η' els els := by
  refine ⟨rfl, fun k e e' h1 h2 => ?_⟩
  rw [h1] at h2
  injection h2 with h2
  subst h2
  refine ⟨rfl, fun j x x' h3 h4 => ?_⟩
  rw [h3] at h4
  injection h4 with h4
  subst h4
  exact .fr (h e (List.mem_of_getElem? h1) x (List.mem_of_getElem? h3))
theorem bwll_cons {e e' : List AV} {r r' : List (List AV)} (h1 : BWL η η' e e') (h2 : BWLL η η' r r') : BWLL η η' (e :: r) (e' :: r') := by
  refine ⟨by simp [h2.1], fun k q q' hq hq' => ?_⟩
  cases k with
  | zero => simp at hq hq'; subst hq hq'; exact ⟨h1.len.symm, h1.at⟩
  | succ k => exact h2.2 k q q' (by simpa using hq) (by simpa using hq')
theorem bwll_append {a a' b b' : List (List AV)} (h1 : BWLL η η' a a') (h2 : BWLL η η' b b') : BWLL η η' (a ++ b) (a' ++ b') := by
  refine ⟨by simp [h1.1, h2.1], fun k q q' hq hq' => ?_⟩
  rw [List.getElem?_append] at hq hq'
  rw [h1.1] at hq'
  split at hq
  · rename_i hlt
    rw [if_pos hlt] at hq'
    exact h1.2 k q q' hq hq'
  · rename_i hlt
    rw [if_neg hlt] at hq'
    exact h2.2 _ q q' hq hq'
theorem row_part {els els' l : List (List AV)} (h : BWLL η η' els els') (hl : els' = l) : RowK η η' els l := by subst hl; exact .part h.1 h.2
theorem bw_own {i ver k len sz : Nat} {B : Blk} {l : List (List AV)} (h1 : η i = ⟨ver, some B⟩) (h2 : (η' i).blk = none) (hs : B.sz = sz) (hkl : k + len ≤ B.els.length) (hfr : FrL B.els) (hmax : len ≤ 140737488355328) (hl : l = (B.els.drop k).take len) : BW η η' (.own i ver k len) (.sl sz l) :=
  .own h1 h2 hs rfl (fun k e e' q1 q2 => ((bwll_fr (η := η) (η' := η') hfr).2 k e e' q1 q2).1) (fun k e e' q1 q2 => ((bwll_fr hfr).2 k e e' q1 q2).2) hkl hfr hmax hl
theorem bw_own2 {i ver k len sz : Nat} {B : Blk} {els' l : List (List AV)} (h1 : η i = ⟨ver, some B⟩) (h2 : (η' i).blk = none) (hs : B.sz = sz) (hw : BWLL η η' B.els els') (hkl : k + len ≤ els'.length) (hfr : FrL els') (hmax : len ≤ 140737488355328) (hl : l = (els'.drop k).take len) : BW η η' (.own i ver k len) (.sl sz l) :=
  .own h1 h2 hs hw.1 (fun k e e' q1 q2 => (hw.2 k e e' q1 q2).1) (fun k e e' q1 q2 => (hw.2 k e e' q1 q2).2) hkl hfr hmax hl
theorem bwll_same {els els' : List (List AV)} (h : els = els') (hf : FrL els) : BWLL η η' els els' := by subst h; exact bwll_fr hf
theorem bw_own3 {i ver len sz : Nat} {B : Blk} {l : List (List AV)} (h1 : η i = ⟨ver, some B⟩) (h2 : (η' i).blk = none) (hs : B.sz = sz) (hfr : FrL l) (hw : BWLL η η' B.els l) (hlen : len = l.length) (hmax : len ≤ 140737488355328) : BW η η' (.own i ver 0 len) (.sl sz l) :=
  bw_own2 h1 h2 hs hw (by omega) hfr hmax (by rw [List.drop_zero, hlen, List.take_length])
theorem bw_ptr {i ver k j : Nat} {B : Blk} {e e' : List AV} (h1 : η i = ⟨ver, some B⟩) (h2 : (η' i).blk = none) (he : B.els[k]? = some e) (hw : BWL η η' e e') : BW η η' (.ptr i ver k j) (.pim e' j) := .ptr h1 h2 he hw.len.symm hw.at
theorem bw_agg {cs cs' : List AV} (h : BWL η η' cs cs') : BW η η' (.agg cs) (.agg cs') := .agg h.len h.at
theorem bw_clo {f : Fn} {ds ds' : List AV} (h : BWL η η' ds ds') : BW η η' (.clo f [] ds) (.clo f [] ds') := .clo rfl (fun j x x' hx => by simp at hx) h.len h.at
theorem bw_c {v : Value} : BW η η' (.c v) (.c v) := .fr (.c v)
theorem bwl_congr {bs : List Nat} {η1 : Nat → Ent} (h : ∀ i ∈ bs, η1 i = η i) {xs ys : List AV} (hb : BWL η (dropB η bs) xs ys) : BWL η1 (dropB η1 bs) xs ys := by
  induction hb with
  | nil => exact .nil
  | cons h1 _ ih => exact .cons (h1.congr h) ih
end
/-- no memory in it -/
def scal0 : AV → Prop
  | .c _ => True
  | .ifc _ (.c _) => True
  | _ => False
def scalL : List AV → Prop
  | [] => True
  | x :: r => scal0 x ∧ scalL r
def scal : AV → Prop
  | .tup cs => scalL cs
  | .agg cs => scalL cs
  | x => scal0 x
theorem scal0_eA (e : Er) : scal0 (eA e) := by cases e <;> trivial
theorem scal_eA (e : Er) : scal (eA e) := by cases e <;> trivial
theorem rv_scal0 {w w' : World} {vs vs' : Shp} {m m' : MM} {x : AV} {v : Value} (hx : scal0 x) (h : RV w vs m x v) : RV w' vs' m' x v := by
  unfold scal0 at hx
  split at hx
  · rw [rv_c h]; exact .c _
  · obtain ⟨u, rfl, h1⟩ : ∃ u, v = .iface _ u ∧ RV w vs m _ u := by cases h with | ifc h => exact ⟨_, rfl, h⟩
    rw [rv_c h1]
    exact .ifc (.c _)
  · exact hx.elim
theorem scalL_at : ∀ {l : List AV} {j : Nat} {x : AV}, scalL l → l[j]? = some x → scal0 x
  | [], _, _, _, h => by simp at h
  | y :: r, 0, x, h, hx => by simp at hx; subst hx; exact h.1
  | y :: r, j + 1, x, h, hx => scalL_at (l := r) (j := j) h.2 (by simpa using hx)
theorem rv_scal {w w' : World} {vs vs' : Shp} {m m' : MM} {x : AV} {v : Value} (hx : scal x) (h : RV w vs m x v) : RV w' vs' m' x v := by
  unfold scal at hx
  split at hx
  · obtain ⟨us, rfl, h1, h2⟩ := rv_tup h
    exact .tup h1 (fun j y u hy hu => rv_scal0 (scalL_at hx hy) (h2 j y u hy hu))
  · obtain ⟨us, rfl, h1, h2⟩ := rv_agg h
    exact .agg h1 (fun j y u hy hu => rv_scal0 (scalL_at hx hy) (h2 j y u hy hu))
  · exact rv_scal0 hx h

section
variable {C : Cx} {n : Nat}
/-- the callee's view of a state that lends some blocks -/
theorem lend {f : FuncId} {r : AV} {τ' : Nat → AV} {η' : Nat → Ent} {bs : List Nat} {os : Array Operand} {ys : List AV} {w0 : World} {X : XX} {m : MM} {a : Act} {w : World} (h : Rep C n w0 X τ' η' m a w)
    (hb : BWL η' (dropB η' bs) (os.toList.map (evA τ')) ys) (hc : ACall C f ys r) :
    Calls C.P f (os.map a.eval) w (fun e w' => ∃ v, e = .returned v ∧ RV w' nov (mO (Owned (shp (dropB η' bs)) (mwk η' (dropB η' bs) m))) r v ∧ Kin w (fun _ => False) w' ∧ C.Gl w') := by
  have hO : ∀ b, Owned (shp (dropB η' bs)) (mwk η' (dropB η' bs) m) b → b < w.heap.size ∧ C.N ≤ b := by
    intro b hb
    rcases owned_wk hb with h1 | ⟨i, h1, h2⟩
    · exact h.mem.olt b h1
    · exact ⟨h.mem.lt (blk_live.1 h1) h2, h.mem.low i b (blk_live.1 h1) h2⟩
  refine hc.2 w _ (os.map a.eval) h.gl h.mem.big hO (by have := hb.len; simpa using this) (fun j y v hy hv => ?_)
  rw [Array.getElem?_map] at hv
  cases hj : os[j]? with
  | none => rw [hj] at hv; cases hv
  | some q =>
    rw [hj] at hv
    simp at hv
    subst hv
    have hx : (os.toList.map (evA τ'))[j]? = some (evA τ' q) := by simp [hj]
    have hbw := hb.at j _ y hx hy
    have hrv := hbw.wv (N := C.N) w m _ h.mem (h.ev q)
    exact rv_fr (hbw.free hrv) (fun b hb => owned_nov.1 hb) hrv
theorem call_run {o : Oper} {f : FuncId} {os : Array Operand} {ats : Array TypeId} {r : AV} {ys : List AV} {a : Act} {w : World} (ho : o.op = .call ⟨.value (.func f), os, ats⟩) (hc : ACall C f ys r) : (execOp a.eval o).run C.P w = .ok (.enter f (os.map a.eval)) w := by
  simp [execOp, ho, resolve, Act.eval, Deferred.ofValue, invoke, hc.1]
theorem after_call {τ : Nat → AV} {η : Nat → Ent} {w0 : World} {X : XX} {m : MM} {a : Act} {w w' : World} (h : Rep C n w0 X τ η m a w) (h2 : Kin w (fun _ => False) w') : Rep C n w0 X τ η m a w' := by
  have hm : Mono w (shp η) m w' (shp η) m := by
    refine ⟨h2.size, fun b hb _ => h2.block b hb (by simp), fun _ _ h => h, fun _ => Nat.le_refl _, fun i _ => ⟨rfl, fun hl => ⟨rfl, fun b hb => ?_⟩⟩⟩
    unfold World.shape?
    rw [h2.block b (h.mem.lt (blk_live.1 hl) hb) (by simp)]
  have hmem : Mem C.N w' η m := ⟨fun i B hB => (h.mem.ok i B hB).mono hm (fun b hb => h2.block b (h.mem.lt (by rw [hB]; simp) hb) (by simp)), h.mem.inj, h.mem.low, h.mem.sep, fun b hb => ⟨Nat.lt_of_lt_of_le (h.mem.olt b hb).1 h2.size, (h.mem.olt b hb).2⟩, Nat.le_trans h.mem.big h2.size⟩
  have hkin : Kin w0 X.X w' := ⟨h2.os.trans h.kin.os, h2.tape.trans h.kin.tape, h2.output.trans h.kin.output, Nat.le_trans h.kin.size h2.size, fun b hb hx => by rw [h2.block b (Nat.lt_of_lt_of_le hb h.kin.size) (by simp), h.kin.block b hb hx]⟩
  exact h.move hm hmem hkin rfl h.own
/-- a call that is lent own memory; no memory in its result -/
theorem lf_callB {o : Oper} {τ : Nat → AV} {η : Nat → Ent} {f : FuncId} {os : Array Operand} {ats : Array TypeId} {r : AV} {xs ys : List AV} (bs : List Nat) (ho : o.op = .call ⟨.value (.func f), os, ats⟩) (hd : InB n o.dst) (hargs : os.toList.map (evA τ) = xs)
    (hb : BWL η (dropB η bs) xs ys) (hc : ACall C f ys r) (hr : scal r) : LF C n o τ η ⟨r, [], bs⟩ := by
  subst hargs
  intro τ' η' hτ hη w0 X m a w h
  have hmap : os.toList.map (evA τ') = os.toList.map (evA τ) := List.map_congr_left (fun y hy => hτ y (by simp [ho, Op.operands, Call.operands]; exact .inr (by simpa using hy)))
  have hb' : BWL η' (dropB η' bs) (os.toList.map (evA τ')) ys := by rw [hmap]; exact bwl_congr (fun i hi => hη i (.inl hi)) hb
  unfold Oper.wp
  rw [call_run ho hc]
  refine Calls.mono (lend h hb' hc) ?_
  rintro e w' ⟨v, rfl, h1, h2, h3⟩
  exact ⟨m, (after_call h h2).put hd (rv_scal hr h1)⟩
/-- blocks given away: their handles are stale -/
def gone (η : Nat → Ent) (bs : List Nat) : List (Nat × Ent) := bs.map (fun i => (i, ⟨(η i).ver + 1, none⟩))
theorem upd_gone : ∀ (us : List (Nat × Ent)) (η : Nat → Ent) (g : Nat → Ent) (k : Nat), (∀ p ∈ us, p.2 = g p.1) → updAll η us k = if k ∈ us.map (·.1) then g k else η k
  | [], η, g, k, _ => by simp [updAll]
  | (i, e) :: r, η, g, k, h => by
    rw [updAll, upd_gone r (updE η i e) g k (fun p hp => h p (by simp [hp]))]
    have he : e = g i := h (i, e) (by simp)
    by_cases hk : k ∈ r.map (·.1)
    · rw [if_pos hk, if_pos (by simp only [List.map_cons, List.mem_cons]; exact .inr hk)]
    · rw [if_neg hk]
      by_cases hki : k = i
      · subst hki; simp [updE, he]
      · rw [if_neg (by simp only [List.map_cons, List.mem_cons]; rintro (h | h); exact hki h; exact hk h)]
        simp [updE, hki]
/-- a call that is given own memory for good -/
theorem lf_callF {o : Oper} {τ : Nat → AV} {η : Nat → Ent} {f : FuncId} {os : Array Operand} {ats : Array TypeId} {r : AV} {xs ys : List AV} (us : List (Nat × Ent)) (hus : ∀ p ∈ us, p.2 = ⟨(η p.1).ver + 1, none⟩) (ho : o.op = .call ⟨.value (.func f), os, ats⟩) (hd : InB n o.dst) (hargs : os.toList.map (evA τ) = xs)
    (hb : BWL η (dropB η (us.map (·.1))) xs ys) (hc : ACall C f ys r) (hr : fr1 r) : LF C n o τ η ⟨r, us, []⟩ := by
  subst hargs
  intro τ' η' hτ hη w0 X m a w h
  obtain ⟨bs, hbs⟩ : ∃ bs, bs = us.map (·.1) := ⟨_, rfl⟩
  rw [← hbs] at hb
  have hη' : ∀ i ∈ bs, η' i = η i := fun i hi => hη i (.inr (by rw [hbs] at hi; exact hi))
  have hmap : os.toList.map (evA τ') = os.toList.map (evA τ) := List.map_congr_left (fun y hy => hτ y (by simp [ho, Op.operands, Call.operands]; exact .inr (by simpa using hy)))
  have hb' : BWL η' (dropB η' bs) (os.toList.map (evA τ')) ys := by rw [hmap]; exact bwl_congr hη' hb
  have hup : ∀ k, updAll η' us k = if k ∈ bs then ⟨(η' k).ver + 1, none⟩ else η' k := by
    intro k
    rw [upd_gone us η' (fun i => ⟨(η i).ver + 1, none⟩) k hus, hbs]
    by_cases hk : k ∈ us.map (·.1)
    · rw [if_pos hk, if_pos hk, hη' k (by rw [hbs]; exact hk)]
    · rw [if_neg hk, if_neg hk]
  have hlive : ∀ i, (updAll η' us i).blk ≠ none → i ∉ bs ∧ updAll η' us i = η' i := by
    intro i hi
    rw [hup] at hi ⊢
    by_cases hk : i ∈ bs
    · rw [if_pos hk] at hi; exact absurd rfl hi
    · exact ⟨hk, by rw [if_neg hk]⟩
  have hown : ∀ b, Owned (shp (updAll η' us)) m b → Owned (shp (dropB η' bs)) (mwk η' (dropB η' bs) m) b := by
    rintro b (h1 | ⟨i, h1, h2⟩)
    · exact .inl h1
    · obtain ⟨k1, k2⟩ := hlive i (blk_live.1 h1)
      have h3 : (η' i).blk ≠ none := by rw [← k2]; exact blk_live.1 h1
      refine .inr ⟨i, blk_live.2 (by rw [drop_out k1]; exact h3), ?_⟩
      cases hB : (η' i).blk with
      | none => exact absurd hB h3
      | some B => simp only [mwk, drop_out k1, hB]; exact h2
  unfold Oper.wp
  rw [call_run ho hc]
  refine Calls.mono (lend h hb' hc) ?_
  rintro e w' ⟨v, rfl, h1, h2, h3⟩
  have h4 := after_call h h2
  have hm : Mono w' (shp η') m w' (shp (updAll η' us)) m := by
    refine ⟨Nat.le_refl _, fun _ _ _ => rfl, fun b _ hno ho => hno ?_, fun i => ?_, fun i hi => ?_⟩
    · exact owned_wk (hown b ho)
    · show (η' i).ver ≤ (updAll η' us i).ver
      rw [hup]
      split
      · exact Nat.le_succ _
      · exact Nat.le_refl _
    · have : updAll η' us i = η' i := by
        rw [hup]
        split
        · rename_i hk
          have hi' : (updAll η' us i).ver = (η' i).ver := hi
          rw [hup, if_pos hk] at hi'
          simp at hi'
        · rfl
      exact ⟨by simp only [shp, this], fun _ => ⟨rfl, fun _ _ => rfl⟩⟩
  have hmem : Mem C.N w' (updAll η' us) m := by
    refine ⟨fun i B hB => ?_, fun i i' b q1 q2 q3 q4 => h4.mem.inj i i' b (by rw [← (hlive i q1).2]; exact q1) (by rw [← (hlive i' q2).2]; exact q2) q3 q4, fun i b q1 q2 => h4.mem.low i b (by rw [← (hlive i q1).2]; exact q1) q2, fun i b q1 q2 => h4.mem.sep i b (by rw [← (hlive i q1).2]; exact q1) q2, h4.mem.olt, h4.mem.big⟩
    have q := hlive i (by rw [hB]; simp)
    exact (h4.mem.ok i B (by rw [← q.2]; exact hB)).mono hm (fun _ _ => rfl)
  have h5 := h4.move hm hmem h4.kin rfl (fun i b q1 q2 => h4.own i b (by rw [← (hlive i q1).2]; exact q1) q2)
  exact ⟨m, h5.put hd (rv_fr1 hr (fun b hb => owned_nov.2 (hown b hb)) h1)⟩
/-- what a closure computes -/
def CCl (C : Cx) (F : AV) (xs : List AV) (r : AV) : Prop := ∃ f fs cap, F = .clo (.func f) fs cap ∧ ACall C f (fs ++ xs ++ cap) r
/-- a call of a closure -/
theorem lf_clo {o : Oper} {τ : Nat → AV} {η : Nat → Ent} {c : Operand} {os : Array Operand} {ats : Array TypeId} {r F : AV} {xs : List AV} (ho : o.op = .call ⟨.value c, os, ats⟩) (hd : InB n o.dst) (hF : evA τ c = F) (hargs : os.toList.map (evA τ) = xs) (hc : CCl C F xs r) (hfF : Fr F) (hfr : frs xs) (hr : fr1 r) : LF C n o τ η ⟨r, [], []⟩ := by
  subst hargs
  obtain ⟨f, fs, cap, rfl, hen, hcall⟩ := hc
  intro τ' η' hτ _ w0 X m a w h
  have hmap : os.toList.map (evA τ') = os.toList.map (evA τ) := List.map_congr_left (fun y hy => hτ y (by simp [ho, Op.operands, Call.operands]; exact .inr (by simpa using hy)))
  have hcv : evA τ' c = .clo (.func f) fs cap := by rw [hτ c (by simp [ho, Op.operands, Call.operands]), hF]
  have hv := h.ev c
  rw [hcv] at hv
  have hvn : RV w nov (mO (Owned (shp η') m)) (.clo (.func f) fs cap) (a.eval c) := rv_fr hfF (fun b hb => owned_nov.1 hb) hv
  obtain ⟨us, us', hu, l1, r1, l2, r2⟩ := rv_clo hvn
  have hrun : (execOp a.eval o).run C.P w = .ok (.enter f (us ++ os.map a.eval ++ us')) w := by
    simp [execOp, ho, resolve, hu, Deferred.ofValue, invoke, hen]
  have hO : ∀ b, Owned (shp η') m b → b < w.heap.size ∧ C.N ≤ b := by
    rintro b (h1 | ⟨i, h1, h2⟩)
    · exact h.mem.olt b h1
    · exact ⟨h.mem.lt (blk_live.1 h1) h2, h.mem.low i b (blk_live.1 h1) h2⟩
  have hmid : ∀ (j : Nat) (x : AV) (v : Value), (os.toList.map (evA τ))[j]? = some x → (os.map a.eval)[j]? = some v → RV w nov (mO (Owned (shp η') m)) x v := by
    intro j x v hx hv
    refine rv_fr1 (frs_at hfr hx) (fun b hb => owned_nov.1 hb) ?_ (vs := shp η') (m := m)
    rw [← hmap, List.getElem?_map] at hx
    rw [Array.getElem?_map] at hv
    cases hj : os[j]? with
    | none => rw [hj] at hv; cases hv
    | some q =>
      have hj' : os.toList[j]? = some q := by simpa using hj
      rw [hj'] at hx
      rw [hj] at hv
      simp at hx hv
      rw [← hx, ← hv]
      exact h.ev q
  have := hcall w (Owned (shp η') m) (us ++ os.map a.eval ++ us') h.gl h.mem.big hO (by simp [l1, l2]) (fun j x v hx hv => by
    rw [List.getElem?_append] at hx
    rw [Array.getElem?_append] at hv
    have e1 : (fs ++ os.toList.map (evA τ)).length = (us ++ os.map a.eval).size := by simp [l1]
    rw [e1] at hx
    split at hx
    · rename_i hlt
      rw [if_pos hlt] at hv
      rw [List.getElem?_append] at hx
      rw [Array.getElem?_append] at hv
      rw [l1] at hx
      split at hx
      · rename_i hlt2
        rw [if_pos hlt2] at hv
        exact r1 j x v hx hv
      · rename_i hlt2
        rw [if_neg hlt2] at hv
        exact hmid _ x v hx hv
    · rename_i hlt
      rw [if_neg hlt] at hv
      exact r2 _ x v hx hv)
  unfold Oper.wp
  rw [hrun]
  refine Calls.mono this ?_
  rintro e w' ⟨v, rfl, h1, h2, h3⟩
  exact ⟨m, (after_call h h2).put hd (rv_fr1 hr (fun b hb => owned_nov.2 hb) h1)⟩
theorem lf_func {o : Oper} {τ : Nat → AV} {η : Nat → Ent} {fn : Fn} {first cap : Array Operand} {fs cs : List AV} (ho : o.op = .makeFunc fn first cap) (hd : InB n o.dst) (h1 : first.toList.map (evA τ) = fs) (h2 : cap.toList.map (evA τ) = cs) : LF C n o τ η ⟨.clo fn fs cs, [], []⟩ := by
  subst h1 h2
  refine lf_pure hd (fun τ' η' g1 _ => ?_)
  have e1 : first.toList.map (evA τ') = first.toList.map (evA τ) := List.map_congr_left (fun y hy => g1 y (by simp [ho, Op.operands]; exact .inl (by simpa using hy)))
  have e2 : cap.toList.map (evA τ') = cap.toList.map (evA τ) := List.map_congr_left (fun y hy => g1 y (by simp [ho, Op.operands]; exact .inr (by simpa using hy)))
  rw [← e1, ← e2]
  exact p_func ho
/-- make: a row of zeros -/
theorem lf_make {o : Oper} {tm : List AV} {hp : List Ent} {t e : TypeId} {ti te : TI} {x y : Operand} {kx ky : IntKind} {p : Int} {d ver : Nat} {z : List AV} (ho : o.op = .makeSlice t x y) (hdd : o.dst = some d) (hdn : d < n) (ht : TyOk C.P t ti) (hk : ti.kind = .slice e) (hte : TyOk C.P e te)
    (hx : evA (tmF tm) x = .c (.int kx p)) (hy : evA (tmF tm) y = .c (.int ky p)) (hver : (hpF hp d).ver = ver) (h0 : 0 ≤ p) (hb : p * te.bytes ≤ 281474976710656) (h63 : p ≤ 9223372036854775807)
    (hz : te.zero.cells.toList.map AV.c = z) (hone : ∀ u ∈ te.zero.cells.toList, u.oneCell' = true) (_hpos : 0 < te.sz) :
    LF C n o (tmF tm) (hpF hp) ⟨.own d (ver + 1) 0 p.toNat, [(d, ⟨ver + 1, some ⟨e, te.sz, false, List.replicate p.toNat z⟩⟩)], []⟩ := by
  intro τ' η' hτ hη w0 X m a w h
  have hη' : (η' d).ver = ver := by rw [hη d (.inr (by simp [Foot.ids]))]; exact hver
  have h1 := h.ev x
  have h2 := h.ev y
  rw [hτ x (by simp [ho, Op.operands]), hx] at h1
  rw [hτ y (by simp [ho, Op.operands]), hy] at h2
  obtain ⟨i, hi, hiz⟩ : ∃ i, C.P.info? e = some i ∧ i.zero = some te.zero ∧ i.size = te.sz ∧ i.bytes = te.bytes := by
    have := hte.info
    cases hh : C.P.info? e with
    | none => rw [hh] at this; cases this
    | some i => rw [hh] at this; simp at this; exact ⟨i, rfl, this.1, this.2.1, this.2.2⟩
  obtain ⟨hi1, hi2, hi3⟩ := hiz
  have hr := run_make (P := C.P) w t e i te.zero (ht.sliceU hk) hi hi1 kx ky p p h0 (Int.le_refl _) (by rw [hi3, Int.mul_comm]; exact hb) h63
  have hzl : z.length = te.sz := by rw [← hz, List.length_map, ← hte.cells]; simp
  have hflat : Flat w (shp η') m te.sz (List.replicate p.toNat z) (madeCells te.zero.cells (p.toNat * i.size)) := by
    refine ⟨by simp [hi2, madeCells], fun k q hq => ?_⟩
    obtain ⟨hk1, rfl⟩ : k < p.toNat ∧ z = q := by
      rw [List.getElem?_replicate] at hq
      split at hq
      · exact ⟨by assumption, by injection hq⟩
      · cases hq
    refine ⟨hzl, fun j v hj => ?_⟩
    have hjlt : j < te.sz := by rw [← hzl]; exact (List.getElem?_eq_some_iff.1 hj).1
    have hjc : j < te.zero.cells.size := by rw [hte.cells]; exact hjlt
    have hmod : (k * te.sz + j) % te.sz = j := by rw [Nat.mul_comm, Nat.mul_add_mod]; exact Nat.mod_eq_of_lt hjlt
    have hlt : k * te.sz + j < p.toNat * te.sz := by
      calc k * te.sz + j < k * te.sz + te.sz := by omega
        _ = (k + 1) * te.sz := by rw [Nat.add_mul]; omega
        _ ≤ p.toNat * te.sz := Nat.mul_le_mul_right _ hk1
    refine ⟨te.zero.cells[j], ?_, hone _ (by simp), ?_⟩
    · simp only [madeCells, hi2, Array.getElem?_map]
      rw [Array.getElem?_range, if_pos hlt]
      simp only [Option.map_some, hte.cells, hmod, Option.some.injEq]
      exact getElem!_pos te.zero.cells j hjc
    · rw [← hz, List.getElem?_map] at hj
      simp [hjc] at hj
      rw [← hj]
      exact .c _
  have hfr := h.fresh (i := d) (ver := (η' d).ver + 1) (B := ⟨e, te.sz, false, List.replicate p.toNat z⟩) (Nat.lt_succ_self _) hflat
  have hrun : (execOp a.eval o).run C.P w = .ok (.value (.slice (some ⟨w.heap.size, 0, none⟩) p.toNat p.toNat)) (w.alloc (.cells (madeCells te.zero.cells (p.toNat * i.size)) e)) := by
    simp only [execOp, ho, rv_c h1, rv_c h2, Sem.run_bind, hr, Result.andThen_ok, Sem.run_pure]
  unfold Oper.wp
  rw [hrun]
  rw [hη'] at hfr
  refine ⟨_, hfr.put (by rw [hdd]; exact hdn) ?_⟩
  have := RV.own (w := w.alloc (.cells (madeCells te.zero.cells (p.toNat * i.size)) e)) (vs := shp (updE η' d ⟨ver + 1, some ⟨e, te.sz, false, List.replicate p.toNat z⟩⟩)) (m := newM m d (some w.heap.size)) (k := 0) (len := p.toNat) (cap := p.toNat) (ty := e) (n := p.toNat * te.sz) shp_new (newM_same _ _ _) (Nat.le_refl _) ?_ ?_ (by simp)
  · simpa [updAll] using this
  · simp only [maxLen]; omega
  · have := heap_alloc_new w (.cells (madeCells te.zero.cells (p.toNat * i.size)) e)
    simp only [World.shape?, this]
    simp [madeCells, hi2]
theorem row_part1 {η η' : Nat → Ent} {els els' : List (List AV)} (h : BWLL η η' els els') : RowK η η' els els' := .part h.1 h.2
theorem bwll_nil {η η' : Nat → Ent} : BWLL η η' [] [] := ⟨rfl, fun k e e' h => by simp at h⟩
theorem bwll_rep {η η' : Nat → Ent} {k : Nat} {z z' : List AV} (h : BWL η η' z z') : BWLL η η' (List.replicate k z) (List.replicate k z') := by
  refine ⟨by simp, fun q e e' h1 h2 => ?_⟩
  rw [List.getElem?_replicate] at h1 h2
  split at h1
  · rename_i hlt
    rw [if_pos hlt] at h2
    injection h1 with h1
    injection h2 with h2
    subst h1 h2
    exact ⟨h.len.symm, h.at⟩
  · cases h1
def allUs (η : Nat → Ent) : List (Nat × Ent) → Prop
  | [] => True
  | p :: r => p.2 = ⟨(η p.1).ver + 1, none⟩ ∧ allUs η r
theorem allUs_at {η : Nat → Ent} : ∀ {us : List (Nat × Ent)}, allUs η us → ∀ p ∈ us, p.2 = ⟨(η p.1).ver + 1, none⟩
  | [], _, p, h => by cases h
  | q :: r, h, p, hp => by
    rcases List.mem_cons.1 hp with rfl | h2
    · exact h.1
    · exact allUs_at h.2 p h2
/-- from a weaker state on -/
theorem awp_wk {c : Code} {Q : Exit → St → Prop} {s : St} (s1 : St) (hl : leK s s1 True) (h : forceK s1.tm (fun tm => forceK s1.hp (fun hp => True → AWP C c Q ⟨tm, hp⟩))) : AWP C c Q s := awp_le hl (forceK_ok (forceK_ok h) trivial)
/-- a type assertion that holds -/
theorem lf_assert {o : Oper} {τ : Nat → AV} {η : Nat → Ent} {xt t : TypeId} {x : Operand} {y : AV} (ho : o.op = .typeAssert x xt t true) (hd : InB n o.dst) (hx : evA τ x = .ifc t y) (hA : ∀ v w, (Instr.typeAssert (.iface t v) xt t true).run C.P w = .ok (.tuple #[v, .bool true]) w) : LF C n o τ η ⟨.tup [y, .c (.bool true)], [], []⟩ := by
  refine lf_pure hd (fun τ' η' g1 _ => ?_)
  intro w0 X m a w h
  have hv := h.ev x
  rw [g1 x (by simp [ho, Op.operands]), hx] at hv
  obtain ⟨u, hu, h1⟩ : ∃ u, a.eval x = .iface t u ∧ RV w (shp η') m y u := by
    generalize a.eval x = v at hv
    cases hv with | ifc h => exact ⟨_, rfl, h⟩
  refine ⟨.tuple #[u, .bool true], by simp [execOp, ho, hu, hA], .tup rfl (fun j z q hz hq => ?_)⟩
  match j, hz, hq with
  | 0, hz, hq => simp at hz hq; subst hz hq; exact h1
  | 1, hz, hq => simp at hz hq; subst hz hq; exact .c _
  | j + 2, hz, hq => simp at hz
/-- the greater and the less of two numbers -/
theorem lf_max {o : Oper} {τ : Nat → AV} {η : Nat → Ent} {x y : Operand} {ats : Array TypeId} {k : IntKind} {p q : Int} (ho : o.op = .call ⟨.builtin .max, #[x, y], ats⟩) (hd : InB n o.dst) (hx : evA τ x = .c (.int k p)) (hy : evA τ y = .c (.int k q)) : LF C n o τ η ⟨.c (.int k (max p q)), [], []⟩ := by
  refine lf_pure hd (fun τ' η' g1 _ => ?_)
  intro w0 X m a w h
  have h1 := h.ev x
  have h2 := h.ev y
  rw [g1 x (by simp [ho, Op.operands, Call.operands]), hx] at h1
  rw [g1 y (by simp [ho, Op.operands, Call.operands]), hy] at h2
  refine ⟨_, ?_, .c _⟩
  simp [execOp, ho, resolve, invoke, builtin, Builtin.max_, Builtin.max2, rv_c h1, rv_c h2]
  split <;> omega
theorem lf_min {o : Oper} {τ : Nat → AV} {η : Nat → Ent} {x y : Operand} {ats : Array TypeId} {k : IntKind} {p q : Int} (ho : o.op = .call ⟨.builtin .min, #[x, y], ats⟩) (hd : InB n o.dst) (hx : evA τ x = .c (.int k p)) (hy : evA τ y = .c (.int k q)) : LF C n o τ η ⟨.c (.int k (min p q)), [], []⟩ := by
  refine lf_pure hd (fun τ' η' g1 _ => ?_)
  intro w0 X m a w h
  have h1 := h.ev x
  have h2 := h.ev y
  rw [g1 x (by simp [ho, Op.operands, Call.operands]), hx] at h1
  rw [g1 y (by simp [ho, Op.operands, Call.operands]), hy] at h2
  refine ⟨_, ?_, .c _⟩
  simp [execOp, ho, resolve, invoke, builtin, Builtin.min_, Builtin.min2, rv_c h1, rv_c h2]
  split <;> omega
/-- the bytes of a text, in new memory -/
theorem lf_bytes {o : Oper} {τ : Nat → AV} {η : Nat → Ent} {src dst e : TypeId} {ts td : TI} {x : Operand} {s : ByteArray} (ho : o.op = .convert src dst x) (hd : InB n o.dst) (hx : evA τ x = .c (.string s)) (hs : TyOk C.P src ts) (hsk : ts.kind = .str) (ht : TyOk C.P dst td) (hk : td.kind = .slice e) (he : C.P.underlying e = some (.int .u8)) (hm : s.size ≤ 140737488355328) :
    LF C n o τ η ⟨.sl 1 (s.data.toList.map (fun c => [AV.c (.int .u8 (c.toNat : Int))])), [], []⟩ := by
  intro τ' η' hτ _ w0 X m a w h
  have hv := h.ev x
  rw [hτ x (by simp [ho, Op.operands]), hx] at hv
  have hrun := run_bytes_of_string (P := C.P) w src dst e s (hs.strU hsk) (ht.sliceU hk) he
  obtain ⟨cp, hcp⟩ : ∃ cp, grownCap w s.size 0 e = cp := ⟨_, rfl⟩
  rw [hcp] at hrun
  have hge : s.size ≤ cp := by rw [← hcp]; exact grownCap_ge w s.size 0 e
  obtain ⟨ob, hob⟩ : ∃ ob, Obj.cells (bytesRow s cp) e ((bytesRow s cp).size, (bytesRow s cp).size + 1) = ob := ⟨_, rfl⟩
  rw [hob] at hrun
  have hex : (execOp a.eval o).run C.P w = .ok (.value (.slice (some ⟨w.heap.size, 0, none⟩) s.size cp)) (w.drew.alloc ob) := by
    simp only [execOp, ho, rv_c hv, Sem.run_bind, hrun, Result.andThen_ok, Sem.run_pure]
  have hkin : Kin w (fun _ => False) (w.drew.alloc ob) := by
    refine ⟨rfl, rfl, rfl, ?_, fun b hb _ => ?_⟩
    · show w.heap.size ≤ (w.heap.push ob).size
      simp
    · show (w.heap.push ob)[b]? = w.heap[b]?
      rw [Array.getElem?_push]
      rw [if_neg (by omega)]
  have hnew : (w.drew.alloc ob).heap[w.heap.size]? = some ob := by
    show (w.heap.push ob)[w.heap.size]? = some ob
    simp
  unfold Oper.wp
  rw [hex]
  have hno : ¬ Owned (shp η') m w.heap.size := by
    rintro (h1 | ⟨i, h1, h2⟩)
    · have := (h.mem.olt _ h1).1
      omega
    · have := h.mem.lt (blk_live.1 h1) h2
      omega
  have hsl : s.size = s.data.toList.length := Lib.size_eq s
  have hget : ∀ (k : Nat) (q : List AV), (s.data.toList.map (fun c => [AV.c (.int .u8 (c.toNat : Int))]))[k]? = some q → ∃ c : UInt8, s.data.toList[k]? = some c ∧ q = [AV.c (.int .u8 (c.toNat : Int))] := by
    intro k q hq
    rw [List.getElem?_map] at hq
    cases hc : s.data.toList[k]? with
    | none => rw [hc] at hq; cases hq
    | some c => rw [hc] at hq; simp at hq; exact ⟨c, rfl, hq.symm⟩
  have hcell : ∀ (k : Nat) (c : UInt8), s.data.toList[k]? = some c → (bytesRow s cp)[k]? = some (.int .u8 c.toNat) := by
    intro k c hc
    have hlt : k < s.data.size := by have := (List.getElem?_eq_some_iff.1 hc).1; simpa using this
    simp only [bytesRow]
    rw [Array.getElem?_append_left (by simp; exact hlt), Array.getElem?_map]
    have : s.data[k]? = some c := by rw [← hc]; simp
    rw [this]
    rfl
  have hrv := RV.sl (w := w.drew.alloc ob) (vs := shp η') (m := m) (sz := 1) (l := s.data.toList.map (fun c => [AV.c (.int .u8 (c.toNat : Int))])) (A := some ⟨w.heap.size, 0, none⟩) (cap := cp) (b := w.heap.size) (off := 0)
    (f := fun k _ => (bytesRow s cp).getD k undef) (fun _ => ⟨rfl, hno, by show w.heap.size < (w.heap.push ob).size; simp⟩) (by simp; exact hge) (by simp; exact hm) (fun k q hq => by obtain ⟨c, _, rfl⟩ := hget k q hq; rfl)
    (fun k j q y hq hy => by
      obtain ⟨c, hc, rfl⟩ := hget k q hq
      cases j with
      | zero =>
        have h1 := hcell k c hc
        refine ⟨?_, by simp [Array.getD_eq_getD_getElem?, h1, Value.oneCell']⟩
        have hn2 := hnew
        rw [← hob] at hn2
        rw [← hob]
        simp only [World.cell?, hn2, Nat.zero_add, Nat.mul_one, Nat.add_zero]
        rw [h1]
        simp [Array.getD_eq_getD_getElem?, h1]
      | succ j => simp at hy)
    (fun k j q y hq hy => by
      obtain ⟨c, hc, rfl⟩ := hget k q hq
      cases j with
      | zero =>
        have h1 := hcell k c hc
        simp at hy
        subst hy
        simp only [Array.getD_eq_getD_getElem?, h1, Option.getD_some]
        exact .c _
      | succ j => simp at hy)
    (FrL_map (fun c _ => FrC_cons (.c _) FrC_nil))
  refine ⟨m, (after_call h hkin).put hd ?_⟩
  have e1 : (s.data.toList.map (fun c => [AV.c (.int .u8 (c.toNat : Int))])).length = s.size := by rw [List.length_map, ← hsl]
  rw [e1] at hrv
  exact hrv
theorem lf_bys {o : Oper} {τ : Nat → AV} {η : Nat → Ent} {src dst e : TypeId} {ts td : TI} {x : Operand} {s : ByteArray} (ho : o.op = .convert src dst x) (hd : InB n o.dst) (hx : evA τ x = .c (.string s)) (hs : TyOk C.P src ts) (hsk : ts.kind = .str) (ht : TyOk C.P dst td) (hk : td.kind = .slice e) (he : C.P.underlying e = some (.int .u8)) (hm : s.size ≤ 140737488355328) :
    LF C n o τ η ⟨.sl 1 ((bys s).map c_u8), [], []⟩ := by
  have h := lf_bytes (η := η) ho hd hx hs hsk ht hk he hm
  have e1 : (bys s).map c_u8 = s.data.toList.map (fun c => [AV.c (.int .u8 (c.toNat : Int))]) := by simp [bys, c_u8]
  rw [e1]
  exact h
/-- '==' and '!=' of two structs of two numbers, by what the program's equality computes -/
theorem lf_eq2 {o : Oper} {τ : Nat → AV} {η : Nat → Ent} {op : BinOp} {xt yt : TypeId} {x y : Operand} {k1 k2 : IntKind} {p q p' q' : Int} (ho : o.op = .binOp op xt x y yt) (hd : InB n o.dst) (hx : evA τ x = .agg [.c (.int k1 p), .c (.int k2 q)]) (hy : evA τ y = .agg [.c (.int k1 p'), .c (.int k2 q')])
    (hE : ∀ w, (Op.equal xt (.agg #[.int k1 p, .int k2 q]) (.agg #[.int k1 p', .int k2 q'])).run C.P w = .ok (p == p' && q == q') w) (hG : ∀ w, (eqGuard op xt x y (.agg #[.int k1 p, .int k2 q]) (.agg #[.int k1 p', .int k2 q'])).run C.P w = .ok () w) {b : Bool} (hop : (op = .eql ∧ b = (p == p' && q == q')) ∨ (op = .neq ∧ b = !(p == p' && q == q'))) : LF C n o τ η ⟨.c (.bool b), [], []⟩ := by
  refine lf_pure hd (fun τ' η' g1 _ => ?_)
  intro w0 X m a w h
  have two : ∀ {z : Operand} {s t : Int}, evA τ' z = .agg [.c (.int k1 s), .c (.int k2 t)] → a.eval z = .agg #[.int k1 s, .int k2 t] := by
    intro z s t hz
    have hv := h.ev z
    rw [hz] at hv
    obtain ⟨us, hu, hl, hr⟩ := rv_agg hv
    have hsz : us.size = 2 := by simpa using hl.symm
    have l0 : 0 < us.size := by omega
    have l1 : 1 < us.size := by omega
    have h0 := rv_c (hr 0 _ us[0] rfl (Array.getElem?_eq_getElem l0))
    have h1 := rv_c (hr 1 _ us[1] rfl (Array.getElem?_eq_getElem l1))
    rw [hu]
    congr 1
    exact Array.ext (by simpa using hl.symm) (fun i h2 h3 => by
      have : i = 0 ∨ i = 1 := by simp at h3; omega
      rcases this with rfl | rfl
      · simpa using h0
      · simpa using h1)
  have e1 := two (by rw [g1 x (by simp [ho, Op.operands])]; exact hx)
  have e2 := two (by rw [g1 y (by simp [ho, Op.operands])]; exact hy)
  refine ⟨.bool b, ?_, .c _⟩
  rcases hop with ⟨rfl, rfl⟩ | ⟨rfl, rfl⟩ <;> simp [execOp, ho, e1, e2, hG, hE, Go.binOp]
end
end Go.Proofs.YticdfbhbbapbdaaDoor.Am
/- Plain: swaps, rotations and merges of a row that is a function of its places. -/
namespace Go.Proofs.YticdfbhbbapbdaaDoor

section
variable {Z : Type}
def swp (f : Nat → Z) (i j : Nat) : Nat → Z := fun k => if k = i then f j else if k = j then f i else f k
def PermF (N : Nat) (f g : Nat → Z) : Prop := ((List.range N).map g).Perm ((List.range N).map f)
theorem PermF.refl (N : Nat) (f : Nat → Z) : PermF N f f := List.Perm.refl _
theorem PermF.trans {N : Nat} {f g h : Nat → Z} (a : PermF N f g) (b : PermF N g h) : PermF N f h := List.Perm.trans b a
theorem swp_perm {N i j : Nat} (f : Nat → Z) (hi : i < N) (hj : j < N) : PermF N f (swp f i j) := by
  have h1 : ((List.range N).map (fun k => if k = i then j else if k = j then i else k)).Perm (List.range N) := by
    refine (List.perm_ext_iff_of_nodup ?_ List.nodup_range).2 (fun a => ?_)
    · unfold List.Nodup
      rw [List.pairwise_map]
      refine List.Pairwise.imp ?_ (List.nodup_range (n := N))
      intro a b hab
      repeat' split
      all_goals omega
    · simp only [List.mem_map, List.mem_range]
      constructor
      · rintro ⟨k, hk, rfl⟩
        repeat' split
        all_goals omega
      · intro ha
        refine ⟨if a = i then j else if a = j then i else a, ?_, ?_⟩
        · repeat' split
          all_goals omega
        · repeat' split
          all_goals omega
  have h2 := h1.map f
  unfold PermF
  have e : (List.range N).map (swp f i j) = ((List.range N).map (fun k => if k = i then j else if k = j then i else k)).map f := by
    rw [List.map_map]
    refine List.map_congr_left (fun k _ => ?_)
    simp only [Function.comp, swp]
    repeat' split
    all_goals rfl
  rw [e]
  exact h2
def swr (f : Nat → Z) (a b n : Nat) : Nat → Z := fun k => if a ≤ k ∧ k < a + n then f (k - a + b) else if b ≤ k ∧ k < b + n then f (k - b + a) else f k
theorem swr_zero (f : Nat → Z) (a b : Nat) : swr f a b 0 = f := by
  funext k
  unfold swr
  rw [if_neg (by omega), if_neg (by omega)]
theorem swr_succ (f : Nat → Z) (a b n : Nat) (h : a + n < b) : swp (swr f a b n) (a + n) (b + n) = swr f a b (n + 1) := by
  funext k
  unfold swp swr
  repeat' split
  all_goals first | rfl | (exact congrArg f (by omega)) | (exfalso; omega)
def rot (f : Nat → Z) (a m b : Nat) : Nat → Z := fun k => if a ≤ k ∧ k < b then (if k < a + (b - m) then f (k - a + m) else f (k - (b - m))) else f k
theorem rot_gt (f : Nat → Z) (a m b : Nat) (h1 : a < m) (h2 : m < b) (h : b - m < m - a) : rot f a m b = rot (swr f a m (b - m)) (a + (b - m)) m b := by
  funext k
  unfold rot swr
  repeat' split
  all_goals first | rfl | (exact congrArg f (by omega)) | (exfalso; omega)
theorem rot_lt (f : Nat → Z) (a m b : Nat) (h1 : a < m) (h2 : m < b) (h : m - a < b - m) : rot f a m b = rot (swr f a (b - (m - a)) (m - a)) a m (b - (m - a)) := by
  funext k
  unfold rot swr
  repeat' split
  all_goals first | rfl | (exact congrArg f (by omega)) | (exfalso; omega)
theorem rot_eq (f : Nat → Z) (a m b : Nat) (h1 : a ≤ m) (h : m - a = b - m) (h2 : m ≤ b) : rot f a m b = swr f a m (m - a) := by
  funext k
  unfold rot swr
  repeat' split
  all_goals first | rfl | (exact congrArg f (by omega)) | (exfalso; omega)
theorem rot_left (f : Nat → Z) (m b : Nat) : rot f m m b = f := by
  funext k
  unfold rot
  repeat' split
  all_goals first | rfl | (exact congrArg f (by omega)) | (exfalso; omega)
theorem rot_right (f : Nat → Z) (a m : Nat) : rot f a m m = f := by
  funext k
  unfold rot
  repeat' split
  all_goals first | rfl | (exact congrArg f (by omega)) | (exfalso; omega)
theorem rot_up (f : Nat → Z) (a k : Nat) (h : a ≤ k) : swp (rot f a (a + 1) (k + 1)) k (k + 1) = rot f a (a + 1) (k + 2) := by
  funext j
  unfold swp rot
  repeat' split
  all_goals first | rfl | (exact congrArg f (by omega)) | (exfalso; omega)
theorem rot_down (f : Nat → Z) (m k : Nat) (h0 : 0 < k) (h : k ≤ m) : swp (rot f k m (m + 1)) k (k - 1) = rot f (k - 1) m (m + 1) := by
  funext j
  unfold swp rot
  repeat' split
  all_goals first | rfl | (exact congrArg f (by omega)) | (exfalso; omega)

/-- the places from a to b hold what they held among them; the others are as they were -/
def Within (a b : Nat) (f g : Nat → Z) : Prop := (∀ k, ¬ (a ≤ k ∧ k < b) → g k = f k) ∧ ∀ k, a ≤ k → k < b → ∃ k', a ≤ k' ∧ k' < b ∧ g k = f k'
theorem Within.refl (a b : Nat) (f : Nat → Z) : Within a b f f := ⟨fun _ _ => rfl, fun k h1 h2 => ⟨k, h1, h2, rfl⟩⟩
theorem Within.trans {a b : Nat} {f g h : Nat → Z} (x : Within a b f g) (y : Within a b g h) : Within a b f h := by
  refine ⟨fun k hk => (y.1 k hk).trans (x.1 k hk), fun k h1 h2 => ?_⟩
  obtain ⟨k', h3, h4, e⟩ := y.2 k h1 h2
  obtain ⟨k'', h5, h6, e'⟩ := x.2 k' h3 h4
  exact ⟨k'', h5, h6, e.trans e'⟩
theorem Within.mono {a b a' b' : Nat} {f g : Nat → Z} (x : Within a b f g) (ha : a' ≤ a) (hb : b ≤ b') : Within a' b' f g := by
  refine ⟨fun k hk => x.1 k (by omega), fun k h1 h2 => ?_⟩
  by_cases hk : a ≤ k ∧ k < b
  · obtain ⟨k', h3, h4, e⟩ := x.2 k hk.1 hk.2
    exact ⟨k', by omega, by omega, e⟩
  · exact ⟨k, h1, h2, x.1 k hk⟩
theorem swp_within (f : Nat → Z) (a b i j : Nat) (hi : a ≤ i ∧ i < b) (hj : a ≤ j ∧ j < b) : Within a b f (swp f i j) := by
  refine ⟨fun k hk => ?_, fun k h1 h2 => ?_⟩
  · unfold swp
    rw [if_neg (by omega), if_neg (by omega)]
  · unfold swp
    repeat' split
    · exact ⟨j, by omega, by omega, rfl⟩
    · exact ⟨i, by omega, by omega, rfl⟩
    · exact ⟨k, by omega, by omega, rfl⟩
theorem rot_within (f : Nat → Z) (a m b : Nat) (h1 : a ≤ m) (h2 : m ≤ b) : Within a b f (rot f a m b) := by
  refine ⟨fun k hk => ?_, fun k h3 h4 => ?_⟩
  · unfold rot
    rw [if_neg hk]
  · unfold rot
    rw [if_pos ⟨h3, h4⟩]
    split
    · exact ⟨_, by omega, by omega, rfl⟩
    · exact ⟨_, by omega, by omega, rfl⟩

variable (lt : Z → Z → Bool)
def leB (x y : Z) : Prop := lt y x = false
def SortedOn (f : Nat → Z) (a b : Nat) : Prop := ∀ i j, a ≤ i → i < j → j < b → leB lt (f i) (f j)
structure Ord : Prop where
  trans : ∀ x y z, leB lt x y → leB lt y z → leB lt x z
  asym : ∀ x y, lt x y = true → leB lt x y
variable {lt}
theorem Ord.refl (o : Ord lt) (x : Z) : leB lt x x := by
  unfold leB
  cases h : lt x x
  · rfl
  · have := o.asym x x h
    unfold leB at this
    rw [h] at this
    cases this
theorem SortedOn.le (o : Ord lt) {f : Nat → Z} {a b i j : Nat} (h : SortedOn lt f a b) (h1 : a ≤ i) (h2 : i ≤ j) (h3 : j < b) : leB lt (f i) (f j) := by
  rcases Nat.lt_or_ge i j with hl | hl
  · exact h i j h1 hl h3
  · obtain rfl : i = j := by omega
    exact o.refl _
theorem SortedOn.small {f : Nat → Z} {a b : Nat} (h : b ≤ a + 1) : SortedOn lt f a b := fun i j h1 h2 h3 => by omega
theorem SortedOn.sub {f : Nat → Z} {a b a' b' : Nat} (h : SortedOn lt f a b) (h1 : a ≤ a') (h2 : b' ≤ b) : SortedOn lt f a' b' := fun i j i1 i2 i3 => h i j (by omega) i2 (by omega)
theorem SortedOn.off {f g : Nat → Z} {a b c d : Nat} (h : SortedOn lt f a b) (w : Within c d f g) (hd : b ≤ c ∨ d ≤ a) : SortedOn lt g a b := by
  intro i j i1 i2 i3
  rw [w.1 i (by omega), w.1 j (by omega)]
  exact h i j i1 i2 i3
theorem SortedOn.join {f : Nat → Z} {a m b : Nat} (h1 : SortedOn lt f a m) (h2 : SortedOn lt f m b) (h : ∀ i j, a ≤ i → i < m → m ≤ j → j < b → leB lt (f i) (f j)) : SortedOn lt f a b := by
  intro i j i1 i2 i3
  by_cases hi : i < m
  · by_cases hj : j < m
    · exact h1 i j i1 i2 hj
    · exact h i j i1 hi (by omega) i3
  · exact h2 i j (by omega) i2 i3
/-- one element from the left goes in -/
theorem ins_up (o : Ord lt) {f : Nat → Z} {a b i : Nat} (hs : SortedOn lt f (a + 1) b) (hi1 : a + 1 ≤ i) (hi2 : i ≤ b) (hl : a + 1 < i → lt (f (i - 1)) (f a) = true) (hr : i < b → lt (f i) (f a) = false) : SortedOn lt (rot f a (a + 1) i) a b := by
  intro p q p1 p2 p3
  unfold rot
  have key : ∀ k, a + 1 ≤ k → k < i → leB lt (f k) (f a) := fun k k1 k2 => o.trans _ _ _ (hs.le o k1 (show k ≤ i - 1 by omega) (by omega)) (o.asym _ _ (hl (by omega)))
  have key2 : ∀ k, i ≤ k → k < b → leB lt (f a) (f k) := fun k k1 k2 => o.trans _ _ _ (hr (by omega)) (hs.le o (by omega) k1 k2)
  repeat' split
  · exact hs.le o (by omega) (by omega) (by omega)
  · rw [show q - (i - (a + 1)) = a by omega]; exact key _ (by omega) (by omega)
  · exact hs.le o (by omega) (by omega) (by omega)
  · exfalso; omega
  · exfalso; omega
  · rw [show p - (i - (a + 1)) = a by omega]; exact key2 _ (by omega) (by omega)
  · exfalso; omega
  · exfalso; omega
  · exact hs.le o (by omega) (by omega) (by omega)
/-- one element from the right goes in -/
theorem ins_down (o : Ord lt) {f : Nat → Z} {a m i : Nat} (hs : SortedOn lt f a m) (hi1 : a ≤ i) (hi2 : i ≤ m) (hl : a < i → lt (f m) (f (i - 1)) = false) (hr : i < m → lt (f m) (f i) = true) : SortedOn lt (rot f i m (m + 1)) a (m + 1) := by
  intro p q p1 p2 p3
  unfold rot
  have key : ∀ k, a ≤ k → k < i → leB lt (f k) (f m) := fun k k1 k2 => o.trans _ _ _ (hs.le o k1 (show k ≤ i - 1 by omega) (by omega)) (hl (by omega))
  have key2 : ∀ k, i ≤ k → k < m → leB lt (f m) (f k) := fun k k1 k2 => o.trans _ _ _ (o.asym _ _ (hr (by omega))) (hs.le o (by omega) k1 k2)
  repeat' split
  · exfalso; omega
  · rw [show p - i + m = m by omega]; exact key2 _ (by omega) (by omega)
  · exfalso; omega
  · exfalso; omega
  · exact hs.le o (by omega) (by omega) (by omega)
  · exfalso; omega
  · rw [show q - i + m = m by omega]; exact key _ (by omega) (by omega)
  · exact hs.le o (by omega) (by omega) (by omega)
  · exact hs.le o (by omega) (by omega) (by omega)
/-- the cut of a symmetric merge -/
theorem sym_cut (o : Ord lt) {f : Nat → Z} {a m b mid s e : Nat} (h1 : SortedOn lt f a m) (h2 : SortedOn lt f m b) (ham : a < m) (hse : s + e = mid + m) (hs1 : a ≤ s) (hs2 : s ≤ m) (he1 : m ≤ e) (he2 : e ≤ b)
    (c1 : a < s → e < b → lt (f e) (f (s - 1)) = false) (c2 : s < m → m < e → lt (f (e - 1)) (f s) = true) :
    SortedOn lt (rot f s m e) a s ∧ SortedOn lt (rot f s m e) s mid ∧ SortedOn lt (rot f s m e) mid e ∧ SortedOn lt (rot f s m e) e b ∧ ∀ i j, a ≤ i → i < mid → mid ≤ j → j < b → leB lt (rot f s m e i) (rot f s m e j) := by
  have L : ∀ k, k < s → rot f s m e k = f k := fun k hk => by unfold rot; rw [if_neg (by omega)]
  have M1 : ∀ k, s ≤ k → k < mid → rot f s m e k = f (k - s + m) := fun k k1 k2 => by unfold rot; rw [if_pos (by omega), if_pos (by omega)]
  have M2 : ∀ k, mid ≤ k → k < e → rot f s m e k = f (k - (e - m)) := fun k k1 k2 => by unfold rot; rw [if_pos (by omega), if_neg (by omega)]
  have R : ∀ k, e ≤ k → rot f s m e k = f k := fun k hk => by unfold rot; rw [if_neg (by omega)]
  refine ⟨?_, ?_, ?_, ?_, ?_⟩
  · intro i j i1 i2 i3
    rw [L i (by omega), L j (by omega)]
    exact h1.le o (by omega) (by omega) (by omega)
  · intro i j i1 i2 i3
    rw [M1 i (by omega) (by omega), M1 j (by omega) (by omega)]
    exact h2.le o (by omega) (by omega) (by omega)
  · intro i j i1 i2 i3
    rw [M2 i (by omega) (by omega), M2 j (by omega) (by omega)]
    exact h1.le o (by omega) (by omega) (by omega)
  · intro i j i1 i2 i3
    rw [R i (by omega), R j (by omega)]
    exact h2.le o (by omega) (by omega) (by omega)
  · intro i j i1 i2 i3 i4
    by_cases hi : i < s
    · rw [L i hi]
      by_cases hj : j < e
      · rw [M2 j i3 hj]
        exact h1.le o (by omega) (by omega) (by omega)
      · rw [R j (by omega)]
        exact o.trans _ _ _ (h1.le o i1 (show i ≤ s - 1 by omega) (by omega)) (o.trans _ _ _ (c1 (by omega) (by omega)) (h2.le o (by omega) (by omega) i4))
    · rw [M1 i (by omega) i2]
      by_cases hj : j < e
      · rw [M2 j i3 hj]
        exact o.trans _ _ _ (h2.le o (by omega) (show i - s + m ≤ e - 1 by omega) (by omega)) (o.trans _ _ _ (o.asym _ _ (c2 (by omega) (by omega))) (h1.le o (by omega) (by omega) (by omega)))
      · rw [R j (by omega)]
        exact h2.le o (by omega) (by omega) (by omega)
/-- .. and the two halves merged -/
theorem sym_join {f g h : Nat → Z} {a mid b : Nat} (w1 : Within a mid f g) (w2 : Within mid b g h) (s1 : SortedOn lt g a mid) (s2 : SortedOn lt h mid b) (hc : ∀ i j, a ≤ i → i < mid → mid ≤ j → j < b → leB lt (f i) (f j)) : SortedOn lt h a b := by
  refine (s1.off w2 (.inl (Nat.le_refl _))).join s2 (fun i j i1 i2 i3 i4 => ?_)
  obtain ⟨j', j1, j2, ej⟩ := w2.2 j i3 i4
  obtain ⟨i', i5, i6, ei⟩ := w1.2 i i1 i2
  rw [w2.1 i (by omega), ei, ej, w1.1 j' (by omega)]
  exact hc i' j' i5 i6 j1 j2
/-- insertion: all is in order but the element at j, which is below those behind it -/
def Almost (lt : Z → Z → Bool) (f : Nat → Z) (a i j : Nat) : Prop := (∀ p q, a ≤ p → p < q → q < i → p ≠ j → q ≠ j → leB lt (f p) (f q)) ∧ ∀ q, j < q → q < i → leB lt (f j) (f q)
theorem almost_start {f : Nat → Z} {a i : Nat} (h : SortedOn lt f a i) : Almost lt f a (i + 1) i :=
  ⟨fun p q p1 p2 p3 _ h2 => h p q p1 p2 (by omega), fun q h1 h2 => by omega⟩
theorem almost_step {f : Nat → Z} {a i j : Nat} (h : Almost lt f a i j) (hj : a < j) (hi : j < i) (o : Ord lt) (hl : lt (f j) (f (j - 1)) = true) : Almost lt (swp f j (j - 1)) a i (j - 1) := by
  refine ⟨fun p q p1 p2 p3 n1 n2 => ?_, fun q q1 q2 => ?_⟩
  · unfold swp
    rw [if_neg n1, if_neg n2]
    by_cases hp : p = j
    · rw [if_pos hp, if_neg (show ¬ q = j by omega)]
      exact h.1 (j - 1) q (by omega) (by omega) p3 (by omega) (by omega)
    · by_cases hq : q = j
      · rw [if_neg hp, if_pos hq]
        exact h.1 p (j - 1) p1 (by omega) (by omega) hp (by omega)
      · rw [if_neg hp, if_neg hq]
        exact h.1 p q p1 p2 p3 hp hq
  · unfold swp
    rw [if_neg (show ¬ j - 1 = j by omega), if_pos rfl]
    by_cases hq : q = j
    · rw [if_pos hq]
      exact o.asym _ _ hl
    · rw [if_neg hq, if_neg (by omega)]
      exact h.2 q (by omega) q2
theorem almost_done {f : Nat → Z} {a i j : Nat} (h : Almost lt f a i j) (hj : a ≤ j) (o : Ord lt) (hl : a < j → lt (f j) (f (j - 1)) = false) : SortedOn lt f a i := by
  intro p q p1 p2 p3
  by_cases hp : p = j
  · subst hp
    exact h.2 q p2 p3
  · by_cases hq : q = j
    · subst hq
      have h1 : leB lt (f (q - 1)) (f q) := hl (by omega)
      by_cases hpq : p = q - 1
      · rw [hpq]; exact h1
      · exact o.trans _ _ _ (h.1 p (q - 1) p1 (by omega) (by omega) hp (by omega)) h1
    · exact h.1 p q p1 p2 p3 hp hq
end
end Go.Proofs.YticdfbhbbapbdaaDoor
/-
  DERIVED: THE SHELF's CONTRACTS AT THIS DUMP, IN PLAIN WORDS (tools/lay-plain.mjs out of 'TrydShelf.lean', which tools/lay-shelf.mjs wrote): THE SAME DECLARATIONS UNDER THE SAME NAMES: 'import', 'namespace', 'open', 'def', 'theorem' AND NOTHING ELSE: no command of the shelf's: FOR A HAND-IN. Each laying: the table of numbers ('.._ren') and one theorem, a field a fact of the dump's own or the kernel's comparison; each contract: ONE APPLICATION.
-/
namespace Go.Proofs
open Go.Shelf
def Tryd.lays170_ren : Go.Shelf.Ren := ⟨fun | 170 => 34 | n => n, fun | 70 => 58 | 3 => 3 | 0 => 0 | 72 => 61 | 37 => 59 | 5 => 5 | n => n, fun | n => n⟩
theorem Tryd.lays170 : Go.Proofs.Lays.n170 Tryd.prog Tryd.lays170_ren := {
  mixed := by kernel_rfl
  f170 := Tryd.func34.trans (congrArg some (by kernel_rfl))
  t0 := Tryd.underlying0
  a0 := Tryd.isAgg0
  z0 := Tryd.sizeOf0
  v0 := Tryd.zeroValue0
  t3 := Tryd.underlying3
  a3 := Tryd.isAgg3
  z3 := Tryd.sizeOf3
  v3 := Tryd.zeroValue3
  t37 := Tryd.underlying59
  a37 := Tryd.isAgg59
  z37 := Tryd.sizeOf59
  v37 := Tryd.zeroValue59
  t70 := Tryd.underlying58
  a70 := Tryd.isAgg58
  z70 := Tryd.sizeOf58
  v70 := Tryd.zeroValue58
  t72 := Tryd.underlying61
  a72 := Tryd.isAgg61
  z72 := Tryd.sizeOf61
  v72 := Tryd.zeroValue61 }
open Go.RowKit in
/-- (*strings.Builder).Len: "Len returns the number of accumulated bytes; b.Len() == len(b.String()).": the world is as it was. (LAID: no walk: one application.) -/
theorem Tryd.Builder_Len (B b : Nat) (bs : List Value) (w : World) (h : Lib.IsBuilder 61 5 B b bs w) :
    Calls Tryd.prog 34 #[.pointer (some ⟨b, 0, none⟩)] w fun e w' => e = .returned (.int .i64 bs.length) ∧ w' = w := Any.Builder_Len Tryd.lays170 B b bs w h
def Tryd.lays169_ren : Go.Shelf.Ren := ⟨fun | 169 => 35 | n => n, fun | 70 => 58 | 9 => 9 | 0 => 0 | 72 => 61 | 37 => 59 | 127 => 83 | 3 => 3 | 5 => 5 | n => n, fun | n => n⟩
theorem Tryd.lays169 : Go.Proofs.Lays.n169 Tryd.prog Tryd.lays169_ren := {
  mixed := by kernel_rfl
  f169 := Tryd.func35.trans (congrArg some (by kernel_rfl))
  t0 := Tryd.underlying0
  a0 := Tryd.isAgg0
  z0 := Tryd.sizeOf0
  v0 := Tryd.zeroValue0
  t3 := Tryd.underlying3
  a3 := Tryd.isAgg3
  z3 := Tryd.sizeOf3
  v3 := Tryd.zeroValue3
  t9 := Tryd.underlying9
  a9 := Tryd.isAgg9
  z9 := Tryd.sizeOf9
  v9 := Tryd.zeroValue9
  t37 := Tryd.underlying59
  a37 := Tryd.isAgg59
  z37 := Tryd.sizeOf59
  v37 := Tryd.zeroValue59
  t70 := Tryd.underlying58
  a70 := Tryd.isAgg58
  z70 := Tryd.sizeOf58
  v70 := Tryd.zeroValue58
  t72 := Tryd.underlying61
  a72 := Tryd.isAgg61
  z72 := Tryd.sizeOf61
  v72 := Tryd.zeroValue61
  t127 := Tryd.underlying83
  a127 := Tryd.isAgg83
  z127 := Tryd.sizeOf83
  v127 := Tryd.zeroValue83 }
theorem Tryd.Builder_Extra_169 : Builder.Extra Tryd.prog Tryd.lays169_ren := {
  sizeBuilder := by kernel_rfl
  liesBuilder := by kernel_rfl
  t5 := Tryd.underlying5
  a5 := Tryd.isAgg5
  z5 := Tryd.sizeOf5
  v5 := Tryd.zeroValue5
  infoByte := by kernel_rfl
  cellsByte := by kernel_rfl
  sizeByte := by kernel_rfl
  neB5 := by decide }
open Go.RowKit in
/-- (*strings.Builder).String: "String returns the accumulated string.": OF A BUILDER THAT HOLDS AT LEAST ONE BYTE. ✋ THE MODEL FREEZES THOSE BYTES IN THE BUFFER (unsafe.String): a later write INTO them ends the model's run without an answer; a later append BEHIND them goes on. The statement's order of evaluation is drawn: one draw. (LAID: no walk: one application.) -/
theorem Tryd.Builder_String (B b : Nat) (l : List UInt8) (w : World) (h : Lib.IsBuilder 61 5 B b (Lib.byteCells l) w) (h0 : l ≠ []) :
    Calls Tryd.prog 35 #[.pointer (some ⟨b, 0, none⟩)] w fun e w' => e = .returned (.string ⟨l.toArray⟩) ∧ Below B w w' := Any.Builder_String Tryd.lays169 Tryd.Builder_Extra_169 B b l w h h0
open Go.RowKit in
/-- (*strings.Builder).String OF A BUILDER THAT HOLDS NO BYTE: the empty string. (Its buffer is nil, or a row of which it has taken nothing yet; where that row has NO capacity the model lays one new block for unsafe.SliceData's 'some address'.) One draw. (LAID: no walk: one application.) -/
theorem Tryd.Builder_String_empty (B b : Nat) (w : World) (h : Lib.IsBuilder 61 5 B b [] w) (hBw : B ≤ w.heap.size) :
    Calls Tryd.prog 35 #[.pointer (some ⟨b, 0, none⟩)] w fun e w' => e = .returned (.string ⟨#[]⟩) ∧ Below B w w' := Any.Builder_String_empty Tryd.lays169 Tryd.Builder_Extra_169 B b w h hBw
open Go.RowKit in
/-- (*strings.Builder).String: "String returns the accumulated string.": WHATEVER THE BUILDER HOLDS. (LAID: no walk: one application.) -/
theorem Tryd.Builder_String_any (B b : Nat) (l : List UInt8) (w : World) (h : Lib.IsBuilder 61 5 B b (Lib.byteCells l) w) (hBw : B ≤ w.heap.size) :
    Calls Tryd.prog 35 #[.pointer (some ⟨b, 0, none⟩)] w fun e w' => e = .returned (.string ⟨l.toArray⟩) ∧ Below B w w' := Any.Builder_String_any Tryd.lays169 Tryd.Builder_Extra_169 B b l w h hBw
def Tryd.lays210_ren : Go.Shelf.Ren := ⟨fun | 210 => 80 | 206 => 91 | n => n, fun | 9 => 9 | 4 => 4 | 3 => 3 | n => n, fun | n => n⟩
theorem Tryd.lays210 : Go.Proofs.Lays.n210 Tryd.prog Tryd.lays210_ren := {
  mixed := by kernel_rfl
  f206 := Tryd.func91.trans (congrArg some (by kernel_rfl))
  f210 := Tryd.func80.trans (congrArg some (by kernel_rfl))
  t3 := Tryd.underlying3
  a3 := Tryd.isAgg3
  z3 := Tryd.sizeOf3
  v3 := Tryd.zeroValue3
  t4 := Tryd.underlying4
  a4 := Tryd.isAgg4
  z4 := Tryd.sizeOf4
  v4 := Tryd.zeroValue4
  t9 := Tryd.underlying9
  a9 := Tryd.isAgg9
  z9 := Tryd.sizeOf9
  v9 := Tryd.zeroValue9 }
open Go.RowKit in
/-- internal/stringslite.CutPrefix (what strings.CutPrefix calls). (LAID: no walk: one application.) -/
theorem Tryd.stringslite_CutPrefix (s p : ByteArray) (w : World) :
    Calls Tryd.prog 80 #[.string s, .string p] w fun e w' => e = .returned (.tuple #[.string ⟨(Lib.trimPrefix s.data.toList p.data.toList).toArray⟩, .bool (Lib.hasPrefix s.data.toList p.data.toList)]) ∧ w' = w := Any.stringslite_CutPrefix Tryd.lays210 s p w
def Tryd.lays103_ren : Go.Shelf.Ren := ⟨fun | 103 => 67 | 210 => 80 | 206 => 91 | n => n, fun | 9 => 9 | 4 => 4 | 24 => 89 | 3 => 3 | n => n, fun | n => n⟩
theorem Tryd.lays103 : Go.Proofs.Lays.n103 Tryd.prog Tryd.lays103_ren := {
  mixed := by kernel_rfl
  f103 := Tryd.func67.trans (congrArg some (by kernel_rfl))
  f206 := Tryd.func91.trans (congrArg some (by kernel_rfl))
  f210 := Tryd.func80.trans (congrArg some (by kernel_rfl))
  t3 := Tryd.underlying3
  a3 := Tryd.isAgg3
  z3 := Tryd.sizeOf3
  v3 := Tryd.zeroValue3
  t4 := Tryd.underlying4
  a4 := Tryd.isAgg4
  z4 := Tryd.sizeOf4
  v4 := Tryd.zeroValue4
  t9 := Tryd.underlying9
  a9 := Tryd.isAgg9
  z9 := Tryd.sizeOf9
  v9 := Tryd.zeroValue9
  t24 := Tryd.underlying89
  a24 := Tryd.isAgg89
  z24 := Tryd.sizeOf89
  v24 := Tryd.zeroValue89 }
open Go.RowKit in
/-- strings.CutPrefix: "CutPrefix returns s without the provided leading prefix string and reports whether it found the prefix. If s doesn't start with prefix, CutPrefix returns s, false. If prefix is the empty string, CutPrefix returns s, true.": IT RETURNS '(Lib.trimPrefix s p, Lib.hasPrefix s p)'; the world is as it was. (LAID: no walk: one application.) -/
theorem Tryd.strings_CutPrefix (s p : ByteArray) (w : World) :
    Calls Tryd.prog 67 #[.string s, .string p] w fun e w' => e = .returned (.tuple #[.string ⟨(Lib.trimPrefix s.data.toList p.data.toList).toArray⟩, .bool (Lib.hasPrefix s.data.toList p.data.toList)]) ∧ w' = w := Any.strings_CutPrefix Tryd.lays103 s p w
def Tryd.lays215_ren : Go.Shelf.Ren := ⟨fun | 215 => 63 | n => n, fun | 3 => 3 | 4 => 4 | n => n, fun | n => n⟩
theorem Tryd.lays215 : Go.Proofs.Lays.n215 Tryd.prog Tryd.lays215_ren := {
  mixed := by kernel_rfl
  f215 := Tryd.func63.trans (congrArg some (by kernel_rfl))
  t3 := Tryd.underlying3
  a3 := Tryd.isAgg3
  z3 := Tryd.sizeOf3
  v3 := Tryd.zeroValue3
  t4 := Tryd.underlying4
  a4 := Tryd.isAgg4
  z4 := Tryd.sizeOf4
  v4 := Tryd.zeroValue4 }
open Go.RowKit in
/-- cmp.isNaN at int: 'x != x': false. (LAID: no walk: one application.) -/
theorem Tryd.cmp_isNaN_int (x : Int) (w : World) :
    Calls Tryd.prog 63 #[.int .i64 x] w fun e w' => e = .returned (.bool false) ∧ w' = w := Any.cmp_isNaN_int Tryd.lays215 x w
def Tryd.lays122_ren : Go.Shelf.Ren := ⟨fun | 122 => 46 | 215 => 63 | n => n, fun | 3 => 3 | 4 => 4 | n => n, fun | n => n⟩
theorem Tryd.lays122 : Go.Proofs.Lays.n122 Tryd.prog Tryd.lays122_ren := {
  mixed := by kernel_rfl
  f122 := Tryd.func46.trans (congrArg some (by kernel_rfl))
  f215 := Tryd.func63.trans (congrArg some (by kernel_rfl))
  t3 := Tryd.underlying3
  a3 := Tryd.isAgg3
  z3 := Tryd.sizeOf3
  v3 := Tryd.zeroValue3
  t4 := Tryd.underlying4
  a4 := Tryd.isAgg4
  z4 := Tryd.sizeOf4
  v4 := Tryd.zeroValue4 }
open Go.RowKit in
/-- cmp.Compare at int: "Compare returns -1 if x is less than y, 0 if x equals y, +1 if x is greater than y.": IT RETURNS 'Lib.compareInt x y'; the world is as it was. (LAID: no walk: one application.) -/
theorem Tryd.cmp_Compare_int (x y : Int) (w : World) :
    Calls Tryd.prog 46 #[.int .i64 x, .int .i64 y] w fun e w' => e = .returned (.int .i64 (Lib.compareInt x y)) ∧ w' = w := Any.cmp_Compare_int Tryd.lays122 x y w
open Go.RowKit in
/-- (*strings.Builder).Len: "Len returns the number of accumulated bytes; b.Len() == len(b.String()).": the world is as it was. (THE FORM '_f': 'Lib.IsBuilderF'.) (LAID: no walk: one application.) -/
theorem Tryd.Builder_Len_f (B b : Nat) (bs : List Value) (w : World) (h : Lib.IsBuilderF 61 5 B b bs w) :
    Calls Tryd.prog 34 #[.pointer (some ⟨b, 0, none⟩)] w fun e w' => e = .returned (.int .i64 bs.length) ∧ w' = w := Any.Builder_Len_f Tryd.lays170 B b bs w h
open Go.RowKit in
/-- (*strings.Builder).String: "String returns the accumulated string.": OF A BUILDER THAT HOLDS AT LEAST ONE BYTE. ✋ THE MODEL FREEZES THOSE BYTES IN THE BUFFER (unsafe.String): a later write INTO them ends the model's run without an answer; a later append BEHIND them goes on. The statement's order of evaluation is drawn: one draw. THE FORM '_f': IT SAYS BESIDES THAT THE BUILDER IS A BUILDER STILL ('Lib.IsBuilderF', the same bytes): SO IT CAN BE WRITTEN ON: 'b.WriteString(b.String()[:k])'. (LAID: no walk: one application.) -/
theorem Tryd.Builder_String_f (B b : Nat) (l : List UInt8) (w : World) (h : Lib.IsBuilderF 61 5 B b (Lib.byteCells l) w) (h0 : l ≠ []) :
    Calls Tryd.prog 35 #[.pointer (some ⟨b, 0, none⟩)] w fun e w' => e = .returned (.string ⟨l.toArray⟩) ∧ (Lib.IsBuilderF 61 5 B b (Lib.byteCells l) w' ∧ Below B w w') := Any.Builder_String_f Tryd.lays169 Tryd.Builder_Extra_169 B b l w h h0
open Go.RowKit in
/-- (*strings.Builder).String OF A BUILDER THAT HOLDS NO BYTE: the empty string; THE FORM '_f': a builder still. (LAID: no walk: one application.) -/
theorem Tryd.Builder_String_empty_f (B b : Nat) (w : World) (h : Lib.IsBuilderF 61 5 B b [] w) (hBw : B ≤ w.heap.size) :
    Calls Tryd.prog 35 #[.pointer (some ⟨b, 0, none⟩)] w fun e w' => e = .returned (.string ⟨#[]⟩) ∧ (Lib.IsBuilderF 61 5 B b [] w' ∧ Below B w w') := Any.Builder_String_empty_f Tryd.lays169 Tryd.Builder_Extra_169 B b w h hBw
open Go.RowKit in
/-- (*strings.Builder).String: "String returns the accumulated string.": WHATEVER THE BUILDER HOLDS; THE FORM '_f': OF A BUILDER THAT MAY HAVE BEEN READ BEFORE; AND IT IS A BUILDER STILL, holding the same bytes: it can be written on. (LAID: no walk: one application.) -/
theorem Tryd.Builder_String_any_f (B b : Nat) (l : List UInt8) (w : World) (h : Lib.IsBuilderF 61 5 B b (Lib.byteCells l) w) (hBw : B ≤ w.heap.size) :
    Calls Tryd.prog 35 #[.pointer (some ⟨b, 0, none⟩)] w fun e w' => e = .returned (.string ⟨l.toArray⟩) ∧ (Lib.IsBuilderF 61 5 B b (Lib.byteCells l) w' ∧ Below B w w') := Any.Builder_String_any_f Tryd.lays169 Tryd.Builder_Extra_169 B b l w h hBw
open Go.RowKit in
/-- (*strings.Builder).String: "String returns the accumulated string.": OF A BUILDER THAT HOLDS AT LEAST ONE BYTE. ✋ THE MODEL FREEZES THOSE BYTES IN THE BUFFER (unsafe.String): a later write INTO them ends the model's run without an answer; a later append BEHIND them goes on. The statement's order of evaluation is drawn: one draw. THE FORM '_k': OVER 'Lib.IsBuilderF' (a builder that 'String()' may have read), AND WITH THE FRAME THAT REACHES ABOVE THE BUILDER: 'Lib.OthersKept': every block that is not b and is no row of uint8's stands as it stood: the iterator of a range among them. (LAID: no walk: one application.) -/
theorem Tryd.Builder_String_k (B b : Nat) (l : List UInt8) (w : World) (h : Lib.IsBuilderF 61 5 B b (Lib.byteCells l) w) (h0 : l ≠ []) :
    Calls Tryd.prog 35 #[.pointer (some ⟨b, 0, none⟩)] w fun e w' => e = .returned (.string ⟨l.toArray⟩) ∧ (Lib.IsBuilderF 61 5 B b (Lib.byteCells l) w' ∧ Below B w w' ∧ Lib.OthersKept 5 (some b) w w') := Any.Builder_String_k Tryd.lays169 Tryd.Builder_Extra_169 B b l w h h0
open Go.RowKit in
/-- (*strings.Builder).String OF A BUILDER THAT HOLDS NO BYTE: the empty string; THE FORM '_k': OVER 'Lib.IsBuilderF' (a builder that 'String()' may have read), AND WITH THE FRAME THAT REACHES ABOVE THE BUILDER: 'Lib.OthersKept': every block that is not b and is no row of uint8's stands as it stood: the iterator of a range among them. (LAID: no walk: one application.) -/
theorem Tryd.Builder_String_empty_k (B b : Nat) (w : World) (h : Lib.IsBuilderF 61 5 B b [] w) (hBw : B ≤ w.heap.size) :
    Calls Tryd.prog 35 #[.pointer (some ⟨b, 0, none⟩)] w fun e w' => e = .returned (.string ⟨#[]⟩) ∧ (Lib.IsBuilderF 61 5 B b [] w' ∧ Below B w w' ∧ Lib.OthersKept 5 (some b) w w') := Any.Builder_String_empty_k Tryd.lays169 Tryd.Builder_Extra_169 B b w h hBw
open Go.RowKit in
/-- (*strings.Builder).String: "String returns the accumulated string.": WHATEVER THE BUILDER HOLDS; THE FORM '_k': OVER 'Lib.IsBuilderF' (a builder that 'String()' may have read), AND WITH THE FRAME THAT REACHES ABOVE THE BUILDER: 'Lib.OthersKept': every block that is not b and is no row of uint8's stands as it stood: the iterator of a range among them. (LAID: no walk: one application.) -/
theorem Tryd.Builder_String_any_k (B b : Nat) (l : List UInt8) (w : World) (h : Lib.IsBuilderF 61 5 B b (Lib.byteCells l) w) (hBw : B ≤ w.heap.size) :
    Calls Tryd.prog 35 #[.pointer (some ⟨b, 0, none⟩)] w fun e w' => e = .returned (.string ⟨l.toArray⟩) ∧ (Lib.IsBuilderF 61 5 B b (Lib.byteCells l) w' ∧ Below B w w' ∧ Lib.OthersKept 5 (some b) w w') := Any.Builder_String_any_k Tryd.lays169 Tryd.Builder_Extra_169 B b l w h hBw
def Tryd.lays129_ren : Go.Shelf.Ren := ⟨fun | 129 => 93 | n => n, fun | 53 => 104 | 3 => 3 | 4 => 4 | 46 => 109 | 5 => 5 | 9 => 9 | n => n, fun | n => n⟩
theorem Tryd.lays129 : Go.Proofs.Lays.n129 Tryd.prog Tryd.lays129_ren := {
  mixed := by kernel_rfl
  f129 := Tryd.func93.trans (congrArg some (by kernel_rfl))
  t3 := Tryd.underlying3
  a3 := Tryd.isAgg3
  z3 := Tryd.sizeOf3
  v3 := Tryd.zeroValue3
  t4 := Tryd.underlying4
  a4 := Tryd.isAgg4
  z4 := Tryd.sizeOf4
  v4 := Tryd.zeroValue4
  t5 := Tryd.underlying5
  a5 := Tryd.isAgg5
  z5 := Tryd.sizeOf5
  v5 := Tryd.zeroValue5
  t9 := Tryd.underlying9
  a9 := Tryd.isAgg9
  z9 := Tryd.sizeOf9
  v9 := Tryd.zeroValue9
  t46 := Tryd.underlying109
  a46 := Tryd.isAgg109
  z46 := Tryd.sizeOf109
  v46 := Tryd.zeroValue109
  t53 := Tryd.underlying104
  a53 := Tryd.isAgg104
  z53 := Tryd.sizeOf104
  v53 := Tryd.zeroValue104 }
/-- bits.Len64: "Len64 returns the minimum number of bits required to represent x; the result is 0 for x == 0.": IT RETURNS 'Lib.bitLen x'; the world is as it was. ('h0', 'h1': x is a uint64.) (LAID: no walk: one application.) -/
theorem Tryd.bits_Len64 (x : Int) (w : World) (h0 : 0 ≤ x) (h1 : x ≤ 18446744073709551615) :
    Calls Tryd.prog 93 #[.int .u64 x] w fun e w' => e = .returned (.int .i64 (Lib.bitLen x.toNat)) ∧ w' = w := Any.bits_Len64 Tryd.lays129 x w h0 h1
def Tryd.lays317_ren : Go.Shelf.Ren := ⟨fun | 317 => 92 | n => n, fun | 3 => 3 | 46 => 109 | n => n, fun | n => n⟩
theorem Tryd.lays317 : Go.Proofs.Lays.n317 Tryd.prog Tryd.lays317_ren := {
  mixed := by kernel_rfl
  f317 := Tryd.func92.trans (congrArg some (by kernel_rfl))
  t3 := Tryd.underlying3
  a3 := Tryd.isAgg3
  z3 := Tryd.sizeOf3
  v3 := Tryd.zeroValue3
  t46 := Tryd.underlying109
  a46 := Tryd.isAgg109
  z46 := Tryd.sizeOf109
  v46 := Tryd.zeroValue109 }
open Go.Lib in
/-- internal/strconv.log10Pow2: "log10Pow2(x) returns ⌊log₁₀ 2**x⌋ = ⌊x * log₁₀ 2⌋.": '(x * 78913) >> 18', at an x up to 64 (a length in bits). The world is as it was. (LAID: no walk: one application.) -/
theorem Tryd.internal_strconv_log10Pow2 (x : Nat) (h : x ≤ 64) (w : World) :
    Calls Tryd.prog 92 #[.int .i64 x] w fun e w' => e = .returned (.int .i64 (Lib.l10 x)) ∧ w' = w := Any.internal_strconv_log10Pow2 Tryd.lays317 x h w
def Tryd.lays318_ren : Go.Shelf.Ren := ⟨fun | 318 => 94 | n => n, fun | 3 => 3 | 4 => 4 | n => n, fun | n => n⟩
theorem Tryd.lays318 : Go.Proofs.Lays.n318 Tryd.prog Tryd.lays318_ren := {
  mixed := by kernel_rfl
  f318 := Tryd.func94.trans (congrArg some (by kernel_rfl))
  t3 := Tryd.underlying3
  a3 := Tryd.isAgg3
  z3 := Tryd.sizeOf3
  v3 := Tryd.zeroValue3
  t4 := Tryd.underlying4
  a4 := Tryd.isAgg4
  z4 := Tryd.sizeOf4
  v4 := Tryd.zeroValue4 }
open Go.Lib in
/-- internal/strconv.bool2: "bool2 converts b to an integer: 1 for true, 0 for false." The world is as it was. (LAID: no walk: one application.) -/
theorem Tryd.internal_strconv_bool2_int (b : Bool) (w : World) :
    Calls Tryd.prog 94 #[.bool b] w fun e w' => e = .returned (.int .i64 (if b then 1 else 0)) ∧ w' = w := Any.internal_strconv_bool2_int Tryd.lays318 b w
def Tryd.lays283_ren : Go.Shelf.Ren := ⟨fun | 283 => 82 | n => n, fun | 3 => 3 | 9 => 9 | 4 => 4 | n => n, fun | n => n⟩
theorem Tryd.lays283 : Go.Proofs.Lays.n283 Tryd.prog Tryd.lays283_ren := {
  mixed := by kernel_rfl
  f283 := Tryd.func82.trans (congrArg some (by kernel_rfl))
  t3 := Tryd.underlying3
  a3 := Tryd.isAgg3
  z3 := Tryd.sizeOf3
  v3 := Tryd.zeroValue3
  t4 := Tryd.underlying4
  a4 := Tryd.isAgg4
  z4 := Tryd.sizeOf4
  v4 := Tryd.zeroValue4
  t9 := Tryd.underlying9
  a9 := Tryd.isAgg9
  z9 := Tryd.sizeOf9
  v9 := Tryd.zeroValue9 }
open Go.Lib in
/-- internal/strconv.small: "small returns the string for an i with 0 <= i < nSmalls.": i's decimal numeral. The world is as it was. (LAID: no walk: one application.) -/
theorem Tryd.internal_strconv_small (i : Nat) (h : i < 100) (w : World) :
    Calls Tryd.prog 82 #[.int .i64 i] w fun e w' => e = .returned (.string ⟨(Lib.decDigits i).toArray⟩) ∧ w' = w := Any.internal_strconv_small Tryd.lays283 i h w
def Tryd.laysM284_ren : Go.Shelf.Ren := ⟨fun | 284 => 83 | 129 => 93 | 317 => 92 | 318 => 94 | n => n, fun | 53 => 104 | 3 => 3 | 212 => 117 | 0 => 0 | 4 => 4 | 46 => 109 | 5 => 5 | 9 => 9 | n => n, fun | 17 => 0 | n => n⟩
theorem Tryd.laysM284 : Go.Proofs.LaysM.n284 Tryd.prog Tryd.laysM284_ren := {
  mixed := by kernel_rfl
  f129 := Tryd.func93.trans (congrArg some (by kernel_rfl))
  f284 := Tryd.func83.trans (congrArg some (by kernel_rfl))
  f317 := Tryd.func92.trans (congrArg some (by kernel_rfl))
  f318 := Tryd.func94.trans (congrArg some (by kernel_rfl))
  t0 := Tryd.underlying0
  a0 := Tryd.isAgg0
  z0 := Tryd.sizeOf0
  v0 := Tryd.zeroValue0
  t3 := Tryd.underlying3
  a3 := Tryd.isAgg3
  z3 := Tryd.sizeOf3
  v3 := Tryd.zeroValue3
  t4 := Tryd.underlying4
  a4 := Tryd.isAgg4
  z4 := Tryd.sizeOf4
  v4 := Tryd.zeroValue4
  t5 := Tryd.underlying5
  a5 := Tryd.isAgg5
  z5 := Tryd.sizeOf5
  v5 := Tryd.zeroValue5
  t9 := Tryd.underlying9
  a9 := Tryd.isAgg9
  z9 := Tryd.sizeOf9
  v9 := Tryd.zeroValue9
  t46 := Tryd.underlying109
  a46 := Tryd.isAgg109
  z46 := Tryd.sizeOf109
  v46 := Tryd.zeroValue109
  t53 := Tryd.underlying104
  a53 := Tryd.isAgg104
  z53 := Tryd.sizeOf104
  v53 := Tryd.zeroValue104
  t212 := Tryd.underlying117
  a212 := Tryd.isAgg117
  z212 := Tryd.sizeOf117
  v212 := Tryd.zeroValue117
  g17 := by kernel_rfl
  i0 := by kernel_rfl
  i3 := by kernel_rfl
  i4 := by kernel_rfl
  i5 := by kernel_rfl
  i9 := by kernel_rfl
  i46 := by kernel_rfl
  i53 := by kernel_rfl
  i212 := by kernel_rfl
  m17 := by kernel_rfl }
open Go.Lib in
/-- internal/strconv.numDigits, at a d that is not 0: THE NUMBER OF d's DECIMAL DIGITS. The world is as it was. (LAID: no walk: one application.) -/
theorem Tryd.internal_strconv_numDigits (u : Nat) (h1 : 1 ≤ u) (h2 : u < 18446744073709551616) (w : World) (htab : Lib.TabIs Tryd.prog w "internal/strconv.uint64pow10" .u64 Lib.pow10Tab) :
    Calls Tryd.prog 83 #[.int .u64 u] w fun e w' => e = .returned (.int .i64 (Lib.nDigits u)) ∧ w' = w := Any.internal_strconv_numDigits Tryd.laysM284 u h1 h2 w htab
def Tryd.lays285_ren : Go.Shelf.Ren := ⟨fun | 285 => 84 | n => n, fun | 37 => 59 | 53 => 104 | 3 => 3 | 4 => 4 | 51 => 118 | 9 => 9 | 5 => 5 | 0 => 0 | n => n, fun | n => n⟩
theorem Tryd.lays285 : Go.Proofs.Lays.n285 Tryd.prog Tryd.lays285_ren := {
  mixed := by kernel_rfl
  f285 := Tryd.func84.trans (congrArg some (by kernel_rfl))
  t0 := Tryd.underlying0
  a0 := Tryd.isAgg0
  z0 := Tryd.sizeOf0
  v0 := Tryd.zeroValue0
  t3 := Tryd.underlying3
  a3 := Tryd.isAgg3
  z3 := Tryd.sizeOf3
  v3 := Tryd.zeroValue3
  t4 := Tryd.underlying4
  a4 := Tryd.isAgg4
  z4 := Tryd.sizeOf4
  v4 := Tryd.zeroValue4
  t5 := Tryd.underlying5
  a5 := Tryd.isAgg5
  z5 := Tryd.sizeOf5
  v5 := Tryd.zeroValue5
  t9 := Tryd.underlying9
  a9 := Tryd.isAgg9
  z9 := Tryd.sizeOf9
  v9 := Tryd.zeroValue9
  t37 := Tryd.underlying59
  a37 := Tryd.isAgg59
  z37 := Tryd.sizeOf59
  v37 := Tryd.zeroValue59
  t51 := Tryd.underlying118
  a51 := Tryd.isAgg118
  z51 := Tryd.sizeOf118
  v51 := Tryd.zeroValue118
  t53 := Tryd.underlying104
  a53 := Tryd.isAgg104
  z53 := Tryd.sizeOf104
  v53 := Tryd.zeroValue104 }
open Go.RowKit Go.Sort Go.Lib in
/-- internal/strconv.formatBase10: "formatBase10 formats the decimal representation of u into a. The caller is responsible for ensuring that a is big enough to hold u. If a is too big, leading zeros will be filled in as needed.": THE ROW HOLDS u's DIGITS ('FmtInv .. 0 ..': every place t holds 'dg u (len - 1 - t)'); all else is as it was but for the count of draws. (LAID: no walk: one application.) -/
theorem Tryd.internal_strconv_formatBase10 (blk off cap : Nat) (u : Nat) (d : Array UInt8) (w : World) (hH : Holds (fun (b : UInt8) => Value.int .u8 (b.toNat : Int)) w blk off d) (hu : u < 10 ^ d.size) (hu64 : u < 18446744073709551616) (hsz : d.size < 4611686018427387904) :
    Calls Tryd.prog 84 #[.slice (some ⟨blk, off, none⟩) d.size cap, .int .u64 u] w fun e w' =>
      e = .returned (.tuple #[]) ∧ ∃ (n v' : Nat) (dk : Array UInt8), w' = (putRow (fun (b : UInt8) => Value.int .u8 (b.toNat : Int)) w blk off dk).drewN n ∧ FmtInv d.size u 0 v' dk := Any.internal_strconv_formatBase10 Tryd.lays285 blk off cap u d w hH hu hu64 hsz
def Tryd.laysM246_ren : Go.Shelf.Ren := ⟨fun | 246 => 74 | 283 => 82 | 284 => 83 | 285 => 84 | 286 => 85 | 129 => 93 | 317 => 92 | 318 => 94 | 319 => 95 | 320 => 96 | 337 => 103 | 338 => 104 | n => n, fun | 2 => 2 | 3 => 3 | 9 => 9 | 4 => 4 | 171 => 103 | 0 => 0 | 53 => 104 | 37 => 59 | 5 => 5 | 173 => 107 | 212 => 117 | 51 => 118 | 20 => 20 | 213 => 119 | 46 => 109 | 232 => 128 | 233 => 129 | n => n, fun | 17 => 0 | 18 => 4 | 19 => 5 | n => n⟩
theorem Tryd.laysM246 : Go.Proofs.LaysM.n246 Tryd.prog Tryd.laysM246_ren := {
  mixed := by kernel_rfl
  f129 := Tryd.func93.trans (congrArg some (by kernel_rfl))
  f246 := Tryd.func74.trans (congrArg some (by kernel_rfl))
  f283 := Tryd.func82.trans (congrArg some (by kernel_rfl))
  f284 := Tryd.func83.trans (congrArg some (by kernel_rfl))
  f285 := Tryd.func84.trans (congrArg some (by kernel_rfl))
  f286 := Tryd.func85.trans (congrArg some (by kernel_rfl))
  f317 := Tryd.func92.trans (congrArg some (by kernel_rfl))
  f318 := Tryd.func94.trans (congrArg some (by kernel_rfl))
  f319 := Tryd.func95.trans (congrArg some (by kernel_rfl))
  f320 := Tryd.func96.trans (congrArg some (by kernel_rfl))
  f337 := Tryd.func103.trans (congrArg some (by kernel_rfl))
  f338 := Tryd.func104.trans (congrArg some (by kernel_rfl))
  t0 := Tryd.underlying0
  a0 := Tryd.isAgg0
  z0 := Tryd.sizeOf0
  v0 := Tryd.zeroValue0
  t2 := Tryd.underlying2
  a2 := Tryd.isAgg2
  z2 := Tryd.sizeOf2
  v2 := Tryd.zeroValue2
  t3 := Tryd.underlying3
  a3 := Tryd.isAgg3
  z3 := Tryd.sizeOf3
  v3 := Tryd.zeroValue3
  t4 := Tryd.underlying4
  a4 := Tryd.isAgg4
  z4 := Tryd.sizeOf4
  v4 := Tryd.zeroValue4
  t5 := Tryd.underlying5
  a5 := Tryd.isAgg5
  z5 := Tryd.sizeOf5
  v5 := Tryd.zeroValue5
  t9 := Tryd.underlying9
  a9 := Tryd.isAgg9
  z9 := Tryd.sizeOf9
  v9 := Tryd.zeroValue9
  t20 := Tryd.underlying20
  a20 := Tryd.isAgg20
  z20 := Tryd.sizeOf20
  v20 := Tryd.zeroValue20
  t37 := Tryd.underlying59
  a37 := Tryd.isAgg59
  z37 := Tryd.sizeOf59
  v37 := Tryd.zeroValue59
  t46 := Tryd.underlying109
  a46 := Tryd.isAgg109
  z46 := Tryd.sizeOf109
  v46 := Tryd.zeroValue109
  t51 := Tryd.underlying118
  a51 := Tryd.isAgg118
  z51 := Tryd.sizeOf118
  v51 := Tryd.zeroValue118
  t53 := Tryd.underlying104
  a53 := Tryd.isAgg104
  z53 := Tryd.sizeOf104
  v53 := Tryd.zeroValue104
  t171 := Tryd.underlying103
  a171 := Tryd.isAgg103
  z171 := Tryd.sizeOf103
  v171 := Tryd.zeroValue103
  t173 := Tryd.underlying107
  a173 := Tryd.isAgg107
  z173 := Tryd.sizeOf107
  v173 := Tryd.zeroValue107
  t212 := Tryd.underlying117
  a212 := Tryd.isAgg117
  z212 := Tryd.sizeOf117
  v212 := Tryd.zeroValue117
  t213 := Tryd.underlying119
  a213 := Tryd.isAgg119
  z213 := Tryd.sizeOf119
  t232 := Tryd.underlying128
  a232 := Tryd.isAgg128
  z232 := Tryd.sizeOf128
  v232 := Tryd.zeroValue128
  t233 := Tryd.underlying129
  a233 := Tryd.isAgg129
  z233 := Tryd.sizeOf129
  v233 := Tryd.zeroValue129
  g17 := by kernel_rfl
  g18 := by kernel_rfl
  g19 := by kernel_rfl
  i0 := by kernel_rfl
  i2 := by kernel_rfl
  i3 := by kernel_rfl
  i4 := by kernel_rfl
  i5 := by kernel_rfl
  i9 := by kernel_rfl
  i20 := by kernel_rfl
  i37 := by kernel_rfl
  i46 := by kernel_rfl
  i51 := by kernel_rfl
  i53 := by kernel_rfl
  i171 := by kernel_rfl
  i173 := by kernel_rfl
  i212 := by kernel_rfl
  i232 := by kernel_rfl
  i233 := by kernel_rfl
  m17 := by kernel_rfl
  m18 := by kernel_rfl
  m19 := by kernel_rfl }
open Go.RowKit Go.Sort Go.Lib in
/-- internal/strconv.FormatInt: "FormatInt returns the string representation of i in the given base": AT BASE 10: i's decimal numeral, for every int64. The world behind the call: the world before it, new blocks behind the heap, draws. (LAID: no walk: one application.) -/
theorem Tryd.internal_strconv_FormatInt_10 (n : Int) (h0 : -9223372036854775808 ≤ n) (h1 : n ≤ 9223372036854775807) (w : World) (htab : Lib.TabIs Tryd.prog w "internal/strconv.uint64pow10" .u64 Lib.pow10Tab) :
    Calls Tryd.prog 74 #[.int .i64 n, .int .i64 10] w fun e w' => e = .returned (.string ⟨(Lib.itoa n).toArray⟩) ∧ ∃ k os, w' = grow (w.drewN k) os := Any.internal_strconv_FormatInt_10 Tryd.laysM246 n h0 h1 w htab
def Tryd.lays246_ren : Go.Shelf.Ren := ⟨fun | 246 => 74 | 283 => 82 | 284 => 83 | 285 => 84 | 286 => 85 | 129 => 93 | 317 => 92 | 318 => 94 | 319 => 95 | 320 => 96 | 337 => 103 | 338 => 104 | n => n, fun | 2 => 2 | 3 => 3 | 9 => 9 | 4 => 4 | 171 => 103 | 0 => 0 | 53 => 104 | 37 => 59 | 5 => 5 | 173 => 107 | 212 => 117 | 51 => 118 | 20 => 20 | 213 => 119 | 46 => 109 | 232 => 128 | 233 => 129 | n => n, fun | 17 => 0 | 18 => 4 | 19 => 5 | n => n⟩
theorem Tryd.lays246 : Go.Proofs.Lays.n246 Tryd.prog Tryd.lays246_ren := {
  mixed := by kernel_rfl
  f129 := Tryd.func93.trans (congrArg some (by kernel_rfl))
  f246 := Tryd.func74.trans (congrArg some (by kernel_rfl))
  f283 := Tryd.func82.trans (congrArg some (by kernel_rfl))
  f284 := Tryd.func83.trans (congrArg some (by kernel_rfl))
  f285 := Tryd.func84.trans (congrArg some (by kernel_rfl))
  f286 := Tryd.func85.trans (congrArg some (by kernel_rfl))
  f317 := Tryd.func92.trans (congrArg some (by kernel_rfl))
  f318 := Tryd.func94.trans (congrArg some (by kernel_rfl))
  f319 := Tryd.func95.trans (congrArg some (by kernel_rfl))
  f320 := Tryd.func96.trans (congrArg some (by kernel_rfl))
  f337 := Tryd.func103.trans (congrArg some (by kernel_rfl))
  f338 := Tryd.func104.trans (congrArg some (by kernel_rfl))
  t0 := Tryd.underlying0
  a0 := Tryd.isAgg0
  z0 := Tryd.sizeOf0
  v0 := Tryd.zeroValue0
  t2 := Tryd.underlying2
  a2 := Tryd.isAgg2
  z2 := Tryd.sizeOf2
  v2 := Tryd.zeroValue2
  t3 := Tryd.underlying3
  a3 := Tryd.isAgg3
  z3 := Tryd.sizeOf3
  v3 := Tryd.zeroValue3
  t4 := Tryd.underlying4
  a4 := Tryd.isAgg4
  z4 := Tryd.sizeOf4
  v4 := Tryd.zeroValue4
  t5 := Tryd.underlying5
  a5 := Tryd.isAgg5
  z5 := Tryd.sizeOf5
  v5 := Tryd.zeroValue5
  t9 := Tryd.underlying9
  a9 := Tryd.isAgg9
  z9 := Tryd.sizeOf9
  v9 := Tryd.zeroValue9
  t20 := Tryd.underlying20
  a20 := Tryd.isAgg20
  z20 := Tryd.sizeOf20
  v20 := Tryd.zeroValue20
  t37 := Tryd.underlying59
  a37 := Tryd.isAgg59
  z37 := Tryd.sizeOf59
  v37 := Tryd.zeroValue59
  t46 := Tryd.underlying109
  a46 := Tryd.isAgg109
  z46 := Tryd.sizeOf109
  v46 := Tryd.zeroValue109
  t51 := Tryd.underlying118
  a51 := Tryd.isAgg118
  z51 := Tryd.sizeOf118
  v51 := Tryd.zeroValue118
  t53 := Tryd.underlying104
  a53 := Tryd.isAgg104
  z53 := Tryd.sizeOf104
  v53 := Tryd.zeroValue104
  t171 := Tryd.underlying103
  a171 := Tryd.isAgg103
  z171 := Tryd.sizeOf103
  v171 := Tryd.zeroValue103
  t173 := Tryd.underlying107
  a173 := Tryd.isAgg107
  z173 := Tryd.sizeOf107
  v173 := Tryd.zeroValue107
  t212 := Tryd.underlying117
  a212 := Tryd.isAgg117
  z212 := Tryd.sizeOf117
  v212 := Tryd.zeroValue117
  t213 := Tryd.underlying119
  a213 := Tryd.isAgg119
  z213 := Tryd.sizeOf119
  t232 := Tryd.underlying128
  a232 := Tryd.isAgg128
  z232 := Tryd.sizeOf128
  v232 := Tryd.zeroValue128
  t233 := Tryd.underlying129
  a233 := Tryd.isAgg129
  z233 := Tryd.sizeOf129
  v233 := Tryd.zeroValue129
  g17 := by kernel_rfl
  g18 := by kernel_rfl
  g19 := by kernel_rfl }
open Go.RowKit Go.Sort Go.Lib in
/-- THE ROAD WITHOUT THE TABLE: 0 <= i < 100: two constants are read, nothing is laid: no premise on the world, and the world is as it was. (LAID: no walk: one application.) -/
theorem Tryd.internal_strconv_FormatInt_10_small (i : Nat) (hi : i < 100) (w : World) :
    Calls Tryd.prog 74 #[.int .i64 i, .int .i64 10] w fun e w' => e = .returned (.string ⟨(Lib.decDigits i).toArray⟩) ∧ w' = w := Any.internal_strconv_FormatInt_10_small Tryd.lays246 i hi w
def Tryd.laysM243_ren : Go.Shelf.Ren := ⟨fun | 243 => 60 | 246 => 74 | 283 => 82 | 284 => 83 | 285 => 84 | 286 => 85 | 129 => 93 | 317 => 92 | 318 => 94 | 319 => 95 | 320 => 96 | 337 => 103 | 338 => 104 | n => n, fun | 3 => 3 | 9 => 9 | 2 => 2 | 4 => 4 | 171 => 103 | 0 => 0 | 53 => 104 | 37 => 59 | 5 => 5 | 173 => 107 | 212 => 117 | 51 => 118 | 20 => 20 | 213 => 119 | 46 => 109 | 232 => 128 | 233 => 129 | n => n, fun | 17 => 0 | 18 => 4 | 19 => 5 | n => n⟩
theorem Tryd.laysM243 : Go.Proofs.LaysM.n243 Tryd.prog Tryd.laysM243_ren := {
  mixed := by kernel_rfl
  f129 := Tryd.func93.trans (congrArg some (by kernel_rfl))
  f243 := Tryd.func60.trans (congrArg some (by kernel_rfl))
  f246 := Tryd.func74.trans (congrArg some (by kernel_rfl))
  f283 := Tryd.func82.trans (congrArg some (by kernel_rfl))
  f284 := Tryd.func83.trans (congrArg some (by kernel_rfl))
  f285 := Tryd.func84.trans (congrArg some (by kernel_rfl))
  f286 := Tryd.func85.trans (congrArg some (by kernel_rfl))
  f317 := Tryd.func92.trans (congrArg some (by kernel_rfl))
  f318 := Tryd.func94.trans (congrArg some (by kernel_rfl))
  f319 := Tryd.func95.trans (congrArg some (by kernel_rfl))
  f320 := Tryd.func96.trans (congrArg some (by kernel_rfl))
  f337 := Tryd.func103.trans (congrArg some (by kernel_rfl))
  f338 := Tryd.func104.trans (congrArg some (by kernel_rfl))
  t0 := Tryd.underlying0
  a0 := Tryd.isAgg0
  z0 := Tryd.sizeOf0
  v0 := Tryd.zeroValue0
  t2 := Tryd.underlying2
  a2 := Tryd.isAgg2
  z2 := Tryd.sizeOf2
  v2 := Tryd.zeroValue2
  t3 := Tryd.underlying3
  a3 := Tryd.isAgg3
  z3 := Tryd.sizeOf3
  v3 := Tryd.zeroValue3
  t4 := Tryd.underlying4
  a4 := Tryd.isAgg4
  z4 := Tryd.sizeOf4
  v4 := Tryd.zeroValue4
  t5 := Tryd.underlying5
  a5 := Tryd.isAgg5
  z5 := Tryd.sizeOf5
  v5 := Tryd.zeroValue5
  t9 := Tryd.underlying9
  a9 := Tryd.isAgg9
  z9 := Tryd.sizeOf9
  v9 := Tryd.zeroValue9
  t20 := Tryd.underlying20
  a20 := Tryd.isAgg20
  z20 := Tryd.sizeOf20
  v20 := Tryd.zeroValue20
  t37 := Tryd.underlying59
  a37 := Tryd.isAgg59
  z37 := Tryd.sizeOf59
  v37 := Tryd.zeroValue59
  t46 := Tryd.underlying109
  a46 := Tryd.isAgg109
  z46 := Tryd.sizeOf109
  v46 := Tryd.zeroValue109
  t51 := Tryd.underlying118
  a51 := Tryd.isAgg118
  z51 := Tryd.sizeOf118
  v51 := Tryd.zeroValue118
  t53 := Tryd.underlying104
  a53 := Tryd.isAgg104
  z53 := Tryd.sizeOf104
  v53 := Tryd.zeroValue104
  t171 := Tryd.underlying103
  a171 := Tryd.isAgg103
  z171 := Tryd.sizeOf103
  v171 := Tryd.zeroValue103
  t173 := Tryd.underlying107
  a173 := Tryd.isAgg107
  z173 := Tryd.sizeOf107
  v173 := Tryd.zeroValue107
  t212 := Tryd.underlying117
  a212 := Tryd.isAgg117
  z212 := Tryd.sizeOf117
  v212 := Tryd.zeroValue117
  t213 := Tryd.underlying119
  a213 := Tryd.isAgg119
  z213 := Tryd.sizeOf119
  t232 := Tryd.underlying128
  a232 := Tryd.isAgg128
  z232 := Tryd.sizeOf128
  v232 := Tryd.zeroValue128
  t233 := Tryd.underlying129
  a233 := Tryd.isAgg129
  z233 := Tryd.sizeOf129
  v233 := Tryd.zeroValue129
  g17 := by kernel_rfl
  g18 := by kernel_rfl
  g19 := by kernel_rfl
  i0 := by kernel_rfl
  i2 := by kernel_rfl
  i3 := by kernel_rfl
  i4 := by kernel_rfl
  i5 := by kernel_rfl
  i9 := by kernel_rfl
  i20 := by kernel_rfl
  i37 := by kernel_rfl
  i46 := by kernel_rfl
  i51 := by kernel_rfl
  i53 := by kernel_rfl
  i171 := by kernel_rfl
  i173 := by kernel_rfl
  i212 := by kernel_rfl
  i232 := by kernel_rfl
  i233 := by kernel_rfl
  m17 := by kernel_rfl
  m18 := by kernel_rfl
  m19 := by kernel_rfl }
open Go.RowKit Go.Sort Go.Lib in
/-- internal/strconv.Itoa: "Itoa is equivalent to FormatInt(int64(i), 10).": i's decimal numeral, for every int. (LAID: no walk: one application.) -/
theorem Tryd.internal_strconv_Itoa (n : Int) (h0 : -9223372036854775808 ≤ n) (h1 : n ≤ 9223372036854775807) (w : World) (htab : Lib.TabIs Tryd.prog w "internal/strconv.uint64pow10" .u64 Lib.pow10Tab) :
    Calls Tryd.prog 60 #[.int .i64 n] w fun e w' => e = .returned (.string ⟨(Lib.itoa n).toArray⟩) ∧ ∃ k os, w' = grow (w.drewN k) os := Any.internal_strconv_Itoa Tryd.laysM243 n h0 h1 w htab
def Tryd.lays243_ren : Go.Shelf.Ren := ⟨fun | 243 => 60 | 246 => 74 | 283 => 82 | 284 => 83 | 285 => 84 | 286 => 85 | 129 => 93 | 317 => 92 | 318 => 94 | 319 => 95 | 320 => 96 | 337 => 103 | 338 => 104 | n => n, fun | 3 => 3 | 9 => 9 | 2 => 2 | 4 => 4 | 171 => 103 | 0 => 0 | 53 => 104 | 37 => 59 | 5 => 5 | 173 => 107 | 212 => 117 | 51 => 118 | 20 => 20 | 213 => 119 | 46 => 109 | 232 => 128 | 233 => 129 | n => n, fun | 17 => 0 | 18 => 4 | 19 => 5 | n => n⟩
theorem Tryd.lays243 : Go.Proofs.Lays.n243 Tryd.prog Tryd.lays243_ren := {
  mixed := by kernel_rfl
  f129 := Tryd.func93.trans (congrArg some (by kernel_rfl))
  f243 := Tryd.func60.trans (congrArg some (by kernel_rfl))
  f246 := Tryd.func74.trans (congrArg some (by kernel_rfl))
  f283 := Tryd.func82.trans (congrArg some (by kernel_rfl))
  f284 := Tryd.func83.trans (congrArg some (by kernel_rfl))
  f285 := Tryd.func84.trans (congrArg some (by kernel_rfl))
  f286 := Tryd.func85.trans (congrArg some (by kernel_rfl))
  f317 := Tryd.func92.trans (congrArg some (by kernel_rfl))
  f318 := Tryd.func94.trans (congrArg some (by kernel_rfl))
  f319 := Tryd.func95.trans (congrArg some (by kernel_rfl))
  f320 := Tryd.func96.trans (congrArg some (by kernel_rfl))
  f337 := Tryd.func103.trans (congrArg some (by kernel_rfl))
  f338 := Tryd.func104.trans (congrArg some (by kernel_rfl))
  t0 := Tryd.underlying0
  a0 := Tryd.isAgg0
  z0 := Tryd.sizeOf0
  v0 := Tryd.zeroValue0
  t2 := Tryd.underlying2
  a2 := Tryd.isAgg2
  z2 := Tryd.sizeOf2
  v2 := Tryd.zeroValue2
  t3 := Tryd.underlying3
  a3 := Tryd.isAgg3
  z3 := Tryd.sizeOf3
  v3 := Tryd.zeroValue3
  t4 := Tryd.underlying4
  a4 := Tryd.isAgg4
  z4 := Tryd.sizeOf4
  v4 := Tryd.zeroValue4
  t5 := Tryd.underlying5
  a5 := Tryd.isAgg5
  z5 := Tryd.sizeOf5
  v5 := Tryd.zeroValue5
  t9 := Tryd.underlying9
  a9 := Tryd.isAgg9
  z9 := Tryd.sizeOf9
  v9 := Tryd.zeroValue9
  t20 := Tryd.underlying20
  a20 := Tryd.isAgg20
  z20 := Tryd.sizeOf20
  v20 := Tryd.zeroValue20
  t37 := Tryd.underlying59
  a37 := Tryd.isAgg59
  z37 := Tryd.sizeOf59
  v37 := Tryd.zeroValue59
  t46 := Tryd.underlying109
  a46 := Tryd.isAgg109
  z46 := Tryd.sizeOf109
  v46 := Tryd.zeroValue109
  t51 := Tryd.underlying118
  a51 := Tryd.isAgg118
  z51 := Tryd.sizeOf118
  v51 := Tryd.zeroValue118
  t53 := Tryd.underlying104
  a53 := Tryd.isAgg104
  z53 := Tryd.sizeOf104
  v53 := Tryd.zeroValue104
  t171 := Tryd.underlying103
  a171 := Tryd.isAgg103
  z171 := Tryd.sizeOf103
  v171 := Tryd.zeroValue103
  t173 := Tryd.underlying107
  a173 := Tryd.isAgg107
  z173 := Tryd.sizeOf107
  v173 := Tryd.zeroValue107
  t212 := Tryd.underlying117
  a212 := Tryd.isAgg117
  z212 := Tryd.sizeOf117
  v212 := Tryd.zeroValue117
  t213 := Tryd.underlying119
  a213 := Tryd.isAgg119
  z213 := Tryd.sizeOf119
  t232 := Tryd.underlying128
  a232 := Tryd.isAgg128
  z232 := Tryd.sizeOf128
  v232 := Tryd.zeroValue128
  t233 := Tryd.underlying129
  a233 := Tryd.isAgg129
  z233 := Tryd.sizeOf129
  v233 := Tryd.zeroValue129
  g17 := by kernel_rfl
  g18 := by kernel_rfl
  g19 := by kernel_rfl }
open Go.RowKit Go.Sort Go.Lib in
/-- THE ROAD WITHOUT THE TABLE: 0 <= i < 100. (LAID: no walk: one application.) -/
theorem Tryd.internal_strconv_Itoa_small (i : Nat) (hi : i < 100) (w : World) :
    Calls Tryd.prog 60 #[.int .i64 i] w fun e w' => e = .returned (.string ⟨(Lib.decDigits i).toArray⟩) ∧ w' = w := Any.internal_strconv_Itoa_small Tryd.lays243 i hi w
def Tryd.laysM171_ren : Go.Shelf.Ren := ⟨fun | 171 => 33 | 243 => 60 | 246 => 74 | 283 => 82 | 284 => 83 | 285 => 84 | 286 => 85 | 129 => 93 | 317 => 92 | 318 => 94 | 319 => 95 | 320 => 96 | 337 => 103 | 338 => 104 | n => n, fun | 3 => 3 | 9 => 9 | 2 => 2 | 4 => 4 | 171 => 103 | 0 => 0 | 53 => 104 | 37 => 59 | 5 => 5 | 173 => 107 | 212 => 117 | 51 => 118 | 20 => 20 | 213 => 119 | 46 => 109 | 232 => 128 | 233 => 129 | n => n, fun | 17 => 0 | 18 => 4 | 19 => 5 | n => n⟩
theorem Tryd.laysM171 : Go.Proofs.LaysM.n171 Tryd.prog Tryd.laysM171_ren := {
  mixed := by kernel_rfl
  f129 := Tryd.func93.trans (congrArg some (by kernel_rfl))
  f171 := Tryd.func33.trans (congrArg some (by kernel_rfl))
  f243 := Tryd.func60.trans (congrArg some (by kernel_rfl))
  f246 := Tryd.func74.trans (congrArg some (by kernel_rfl))
  f283 := Tryd.func82.trans (congrArg some (by kernel_rfl))
  f284 := Tryd.func83.trans (congrArg some (by kernel_rfl))
  f285 := Tryd.func84.trans (congrArg some (by kernel_rfl))
  f286 := Tryd.func85.trans (congrArg some (by kernel_rfl))
  f317 := Tryd.func92.trans (congrArg some (by kernel_rfl))
  f318 := Tryd.func94.trans (congrArg some (by kernel_rfl))
  f319 := Tryd.func95.trans (congrArg some (by kernel_rfl))
  f320 := Tryd.func96.trans (congrArg some (by kernel_rfl))
  f337 := Tryd.func103.trans (congrArg some (by kernel_rfl))
  f338 := Tryd.func104.trans (congrArg some (by kernel_rfl))
  t0 := Tryd.underlying0
  a0 := Tryd.isAgg0
  z0 := Tryd.sizeOf0
  v0 := Tryd.zeroValue0
  t2 := Tryd.underlying2
  a2 := Tryd.isAgg2
  z2 := Tryd.sizeOf2
  v2 := Tryd.zeroValue2
  t3 := Tryd.underlying3
  a3 := Tryd.isAgg3
  z3 := Tryd.sizeOf3
  v3 := Tryd.zeroValue3
  t4 := Tryd.underlying4
  a4 := Tryd.isAgg4
  z4 := Tryd.sizeOf4
  v4 := Tryd.zeroValue4
  t5 := Tryd.underlying5
  a5 := Tryd.isAgg5
  z5 := Tryd.sizeOf5
  v5 := Tryd.zeroValue5
  t9 := Tryd.underlying9
  a9 := Tryd.isAgg9
  z9 := Tryd.sizeOf9
  v9 := Tryd.zeroValue9
  t20 := Tryd.underlying20
  a20 := Tryd.isAgg20
  z20 := Tryd.sizeOf20
  v20 := Tryd.zeroValue20
  t37 := Tryd.underlying59
  a37 := Tryd.isAgg59
  z37 := Tryd.sizeOf59
  v37 := Tryd.zeroValue59
  t46 := Tryd.underlying109
  a46 := Tryd.isAgg109
  z46 := Tryd.sizeOf109
  v46 := Tryd.zeroValue109
  t51 := Tryd.underlying118
  a51 := Tryd.isAgg118
  z51 := Tryd.sizeOf118
  v51 := Tryd.zeroValue118
  t53 := Tryd.underlying104
  a53 := Tryd.isAgg104
  z53 := Tryd.sizeOf104
  v53 := Tryd.zeroValue104
  t171 := Tryd.underlying103
  a171 := Tryd.isAgg103
  z171 := Tryd.sizeOf103
  v171 := Tryd.zeroValue103
  t173 := Tryd.underlying107
  a173 := Tryd.isAgg107
  z173 := Tryd.sizeOf107
  v173 := Tryd.zeroValue107
  t212 := Tryd.underlying117
  a212 := Tryd.isAgg117
  z212 := Tryd.sizeOf117
  v212 := Tryd.zeroValue117
  t213 := Tryd.underlying119
  a213 := Tryd.isAgg119
  z213 := Tryd.sizeOf119
  t232 := Tryd.underlying128
  a232 := Tryd.isAgg128
  z232 := Tryd.sizeOf128
  v232 := Tryd.zeroValue128
  t233 := Tryd.underlying129
  a233 := Tryd.isAgg129
  z233 := Tryd.sizeOf129
  v233 := Tryd.zeroValue129
  g17 := by kernel_rfl
  g18 := by kernel_rfl
  g19 := by kernel_rfl
  i0 := by kernel_rfl
  i2 := by kernel_rfl
  i3 := by kernel_rfl
  i4 := by kernel_rfl
  i5 := by kernel_rfl
  i9 := by kernel_rfl
  i20 := by kernel_rfl
  i37 := by kernel_rfl
  i46 := by kernel_rfl
  i51 := by kernel_rfl
  i53 := by kernel_rfl
  i171 := by kernel_rfl
  i173 := by kernel_rfl
  i212 := by kernel_rfl
  i232 := by kernel_rfl
  i233 := by kernel_rfl
  m17 := by kernel_rfl
  m18 := by kernel_rfl
  m19 := by kernel_rfl }
open Go.RowKit Go.Sort Go.Lib in
/-- strconv.Itoa: "Itoa is equivalent to FormatInt(int64(i), 10).": i's DECIMAL NUMERAL ('Lib.itoa': a '-' where i is negative, then the digits), FOR EVERY int. The world behind the call: the world before it, new blocks behind the heap (the library's 'var a [24]byte'), draws. (LAID: no walk: one application.) -/
theorem Tryd.strconv_Itoa (n : Int) (h0 : -9223372036854775808 ≤ n) (h1 : n ≤ 9223372036854775807) (w : World) (htab : Lib.TabIs Tryd.prog w "internal/strconv.uint64pow10" .u64 Lib.pow10Tab) :
    Calls Tryd.prog 33 #[.int .i64 n] w fun e w' => e = .returned (.string ⟨(Lib.itoa n).toArray⟩) ∧ ∃ k os, w' = grow (w.drewN k) os := Any.strconv_Itoa Tryd.laysM171 n h0 h1 w htab
def Tryd.lays171_ren : Go.Shelf.Ren := ⟨fun | 171 => 33 | 243 => 60 | 246 => 74 | 283 => 82 | 284 => 83 | 285 => 84 | 286 => 85 | 129 => 93 | 317 => 92 | 318 => 94 | 319 => 95 | 320 => 96 | 337 => 103 | 338 => 104 | n => n, fun | 3 => 3 | 9 => 9 | 2 => 2 | 4 => 4 | 171 => 103 | 0 => 0 | 53 => 104 | 37 => 59 | 5 => 5 | 173 => 107 | 212 => 117 | 51 => 118 | 20 => 20 | 213 => 119 | 46 => 109 | 232 => 128 | 233 => 129 | n => n, fun | 17 => 0 | 18 => 4 | 19 => 5 | n => n⟩
theorem Tryd.lays171 : Go.Proofs.Lays.n171 Tryd.prog Tryd.lays171_ren := {
  mixed := by kernel_rfl
  f129 := Tryd.func93.trans (congrArg some (by kernel_rfl))
  f171 := Tryd.func33.trans (congrArg some (by kernel_rfl))
  f243 := Tryd.func60.trans (congrArg some (by kernel_rfl))
  f246 := Tryd.func74.trans (congrArg some (by kernel_rfl))
  f283 := Tryd.func82.trans (congrArg some (by kernel_rfl))
  f284 := Tryd.func83.trans (congrArg some (by kernel_rfl))
  f285 := Tryd.func84.trans (congrArg some (by kernel_rfl))
  f286 := Tryd.func85.trans (congrArg some (by kernel_rfl))
  f317 := Tryd.func92.trans (congrArg some (by kernel_rfl))
  f318 := Tryd.func94.trans (congrArg some (by kernel_rfl))
  f319 := Tryd.func95.trans (congrArg some (by kernel_rfl))
  f320 := Tryd.func96.trans (congrArg some (by kernel_rfl))
  f337 := Tryd.func103.trans (congrArg some (by kernel_rfl))
  f338 := Tryd.func104.trans (congrArg some (by kernel_rfl))
  t0 := Tryd.underlying0
  a0 := Tryd.isAgg0
  z0 := Tryd.sizeOf0
  v0 := Tryd.zeroValue0
  t2 := Tryd.underlying2
  a2 := Tryd.isAgg2
  z2 := Tryd.sizeOf2
  v2 := Tryd.zeroValue2
  t3 := Tryd.underlying3
  a3 := Tryd.isAgg3
  z3 := Tryd.sizeOf3
  v3 := Tryd.zeroValue3
  t4 := Tryd.underlying4
  a4 := Tryd.isAgg4
  z4 := Tryd.sizeOf4
  v4 := Tryd.zeroValue4
  t5 := Tryd.underlying5
  a5 := Tryd.isAgg5
  z5 := Tryd.sizeOf5
  v5 := Tryd.zeroValue5
  t9 := Tryd.underlying9
  a9 := Tryd.isAgg9
  z9 := Tryd.sizeOf9
  v9 := Tryd.zeroValue9
  t20 := Tryd.underlying20
  a20 := Tryd.isAgg20
  z20 := Tryd.sizeOf20
  v20 := Tryd.zeroValue20
  t37 := Tryd.underlying59
  a37 := Tryd.isAgg59
  z37 := Tryd.sizeOf59
  v37 := Tryd.zeroValue59
  t46 := Tryd.underlying109
  a46 := Tryd.isAgg109
  z46 := Tryd.sizeOf109
  v46 := Tryd.zeroValue109
  t51 := Tryd.underlying118
  a51 := Tryd.isAgg118
  z51 := Tryd.sizeOf118
  v51 := Tryd.zeroValue118
  t53 := Tryd.underlying104
  a53 := Tryd.isAgg104
  z53 := Tryd.sizeOf104
  v53 := Tryd.zeroValue104
  t171 := Tryd.underlying103
  a171 := Tryd.isAgg103
  z171 := Tryd.sizeOf103
  v171 := Tryd.zeroValue103
  t173 := Tryd.underlying107
  a173 := Tryd.isAgg107
  z173 := Tryd.sizeOf107
  v173 := Tryd.zeroValue107
  t212 := Tryd.underlying117
  a212 := Tryd.isAgg117
  z212 := Tryd.sizeOf117
  v212 := Tryd.zeroValue117
  t213 := Tryd.underlying119
  a213 := Tryd.isAgg119
  z213 := Tryd.sizeOf119
  t232 := Tryd.underlying128
  a232 := Tryd.isAgg128
  z232 := Tryd.sizeOf128
  v232 := Tryd.zeroValue128
  t233 := Tryd.underlying129
  a233 := Tryd.isAgg129
  z233 := Tryd.sizeOf129
  v233 := Tryd.zeroValue129
  g17 := by kernel_rfl
  g18 := by kernel_rfl
  g19 := by kernel_rfl }
open Go.RowKit Go.Sort Go.Lib in
/-- THE ROAD WITHOUT THE TABLE: 0 <= i < 100: NO PREMISE ON THE WORLD, AND THE WORLD IS AS IT WAS: a row that keeps its argument in that range need list no table ('laid = []'). (LAID: no walk: one application.) -/
theorem Tryd.strconv_Itoa_small (i : Nat) (hi : i < 100) (w : World) :
    Calls Tryd.prog 33 #[.int .i64 i] w fun e w' => e = .returned (.string ⟨(Lib.decDigits i).toArray⟩) ∧ w' = w := Any.strconv_Itoa_small Tryd.lays171 i hi w
def Tryd.lays217_ren : Go.Shelf.Ren := ⟨fun | 217 => 99 | 266 => 105 | n => n, fun | 9 => 9 | 5 => 5 | 3 => 3 | n => n, fun | n => n⟩
theorem Tryd.lays217 : Go.Proofs.Lays.n217 Tryd.prog Tryd.lays217_ren := {
  mixed := by kernel_rfl
  f217 := Tryd.func99.trans (congrArg some (by kernel_rfl))
  f266 := Tryd.func105.trans (congrArg some (by kernel_rfl))
  t3 := Tryd.underlying3
  a3 := Tryd.isAgg3
  z3 := Tryd.sizeOf3
  v3 := Tryd.zeroValue3
  t5 := Tryd.underlying5
  a5 := Tryd.isAgg5
  z5 := Tryd.sizeOf5
  v5 := Tryd.zeroValue5
  t9 := Tryd.underlying9
  a9 := Tryd.isAgg9
  z9 := Tryd.sizeOf9
  v9 := Tryd.zeroValue9 }
open Go.RowKit Go.Lib in
/-- internal/stringslite.IndexByte (what strings.IndexByte calls): IT RETURNS 'Lib.indexByte s c'; the world is as it was. (LAID: no walk: one application.) -/
theorem Tryd.stringslite_IndexByte (s : ByteArray) (c : Int) (w : World) :
    Calls Tryd.prog 99 #[.string s, .int .u8 c] w fun e w' => e = .returned (.int .i64 (Lib.indexByte s.data.toList c.toNat.toUInt8)) ∧ w' = w := Any.stringslite_IndexByte Tryd.lays217 s c w
def Tryd.lays224_ren : Go.Shelf.Ren := ⟨fun | 224 => 101 | n => n, fun | 3 => 3 | n => n, fun | n => n⟩
theorem Tryd.lays224 : Go.Proofs.Lays.n224 Tryd.prog Tryd.lays224_ren := {
  mixed := by kernel_rfl
  f224 := Tryd.func101.trans (congrArg some (by kernel_rfl))
  t3 := Tryd.underlying3
  a3 := Tryd.isAgg3
  z3 := Tryd.sizeOf3
  v3 := Tryd.zeroValue3 }
open Go.RowKit Go.Lib in
/-- internal/bytealg.Cutover: "Cutover reports the number of failures of IndexByte we should tolerate before switching over to Index. n is the number of bytes processed so far.": on amd64: (n + 16) / 8. (LAID: no walk: one application.) -/
theorem Tryd.bytealg_Cutover (n : Int) (h0 : 0 ≤ n) (h1 : n < 4611686018427387904) (w : World) :
    Calls Tryd.prog 101 #[.int .i64 n] w fun e w' => e = .returned (.int .i64 ((n + 16) / 8)) ∧ w' = w := Any.bytealg_Cutover Tryd.lays224 n h0 h1 w
def Tryd.lays314_ren : Go.Shelf.Ren := ⟨fun | 314 => 106 | n => n, fun | 9 => 9 | 51 => 118 | 3 => 3 | 4 => 4 | 5 => 5 | 46 => 109 | n => n, fun | n => n⟩
theorem Tryd.lays314 : Go.Proofs.Lays.n314 Tryd.prog Tryd.lays314_ren := {
  mixed := by kernel_rfl
  f314 := Tryd.func106.trans (congrArg some (by kernel_rfl))
  t3 := Tryd.underlying3
  a3 := Tryd.isAgg3
  z3 := Tryd.sizeOf3
  v3 := Tryd.zeroValue3
  t4 := Tryd.underlying4
  a4 := Tryd.isAgg4
  z4 := Tryd.sizeOf4
  v4 := Tryd.zeroValue4
  t5 := Tryd.underlying5
  a5 := Tryd.isAgg5
  z5 := Tryd.sizeOf5
  v5 := Tryd.zeroValue5
  t9 := Tryd.underlying9
  a9 := Tryd.isAgg9
  z9 := Tryd.sizeOf9
  v9 := Tryd.zeroValue9
  t46 := Tryd.underlying109
  a46 := Tryd.isAgg109
  z46 := Tryd.sizeOf109
  v46 := Tryd.zeroValue109
  t51 := Tryd.underlying118
  a51 := Tryd.isAgg118
  z51 := Tryd.sizeOf118
  v51 := Tryd.zeroValue118 }
open Go.RowKit Go.Lib in
/-- hashStr: "returns the hash and the appropriate multiplicative factor for use in Rabin-Karp algorithm": THE HASH OF ALL OF sep, AND 16777619 ^ len(sep), both in uint32. (LAID: no walk: one application.) -/
theorem Tryd.bytealg_hashStr (sep : ByteArray) (hs : sep.size < 4294967281) (w : World) :
    Calls Tryd.prog 106 #[.string sep] w fun e w' => e = .returned (.tuple #[.int .u32 (RK.H sep.data.toList % 4294967296), .int .u32 (16777619 ^ sep.size % 4294967296)]) ∧ w' = w := Any.bytealg_hashStr Tryd.lays314 sep hs w
def Tryd.lays267_ren : Go.Shelf.Ren := ⟨fun | 267 => 102 | 314 => 106 | n => n, fun | 9 => 9 | 3 => 3 | 146 => 126 | 51 => 118 | 4 => 4 | 5 => 5 | 46 => 109 | n => n, fun | n => n⟩
theorem Tryd.lays267 : Go.Proofs.Lays.n267 Tryd.prog Tryd.lays267_ren := {
  mixed := by kernel_rfl
  f267 := Tryd.func102.trans (congrArg some (by kernel_rfl))
  f314 := Tryd.func106.trans (congrArg some (by kernel_rfl))
  t3 := Tryd.underlying3
  a3 := Tryd.isAgg3
  z3 := Tryd.sizeOf3
  v3 := Tryd.zeroValue3
  t4 := Tryd.underlying4
  a4 := Tryd.isAgg4
  z4 := Tryd.sizeOf4
  v4 := Tryd.zeroValue4
  t5 := Tryd.underlying5
  a5 := Tryd.isAgg5
  z5 := Tryd.sizeOf5
  v5 := Tryd.zeroValue5
  t9 := Tryd.underlying9
  a9 := Tryd.isAgg9
  z9 := Tryd.sizeOf9
  v9 := Tryd.zeroValue9
  t46 := Tryd.underlying109
  a46 := Tryd.isAgg109
  z46 := Tryd.sizeOf109
  v46 := Tryd.zeroValue109
  t51 := Tryd.underlying118
  a51 := Tryd.isAgg118
  z51 := Tryd.sizeOf118
  v51 := Tryd.zeroValue118
  t146 := Tryd.underlying126
  a146 := Tryd.isAgg126
  z146 := Tryd.sizeOf126
  v146 := Tryd.zeroValue126 }
open Go.RowKit Go.Lib in
theorem Tryd.bytealg_IndexRabinKarp (s sep : ByteArray) (h1 : 1 ≤ sep.size) (h2 : sep.size ≤ s.size) (hs : s.size < 4294967281) (w : World) :
    Calls Tryd.prog 102 #[.string s, .string sep] w fun e w' => e = .returned (.int .i64 (Lib.index s.data.toList sep.data.toList)) ∧ w' = w := Any.bytealg_IndexRabinKarp Tryd.lays267 s sep h1 h2 hs w
def Tryd.lays219_ren : Go.Shelf.Ren := ⟨fun | 219 => 90 | 217 => 99 | 225 => 100 | 224 => 101 | 267 => 102 | 266 => 105 | 314 => 106 | n => n, fun | 9 => 9 | 3 => 3 | 4 => 4 | 5 => 5 | 46 => 109 | 146 => 126 | 51 => 118 | n => n, fun | 1 => 1 | n => n⟩
theorem Tryd.lays219 : Go.Proofs.Lays.n219 Tryd.prog Tryd.lays219_ren := {
  mixed := by kernel_rfl
  f217 := Tryd.func99.trans (congrArg some (by kernel_rfl))
  f219 := Tryd.func90.trans (congrArg some (by kernel_rfl))
  f224 := Tryd.func101.trans (congrArg some (by kernel_rfl))
  f225 := Tryd.func100.trans (congrArg some (by kernel_rfl))
  f266 := Tryd.func105.trans (congrArg some (by kernel_rfl))
  f267 := Tryd.func102.trans (congrArg some (by kernel_rfl))
  f314 := Tryd.func106.trans (congrArg some (by kernel_rfl))
  t3 := Tryd.underlying3
  a3 := Tryd.isAgg3
  z3 := Tryd.sizeOf3
  v3 := Tryd.zeroValue3
  t4 := Tryd.underlying4
  a4 := Tryd.isAgg4
  z4 := Tryd.sizeOf4
  v4 := Tryd.zeroValue4
  t5 := Tryd.underlying5
  a5 := Tryd.isAgg5
  z5 := Tryd.sizeOf5
  v5 := Tryd.zeroValue5
  t9 := Tryd.underlying9
  a9 := Tryd.isAgg9
  z9 := Tryd.sizeOf9
  v9 := Tryd.zeroValue9
  t46 := Tryd.underlying109
  a46 := Tryd.isAgg109
  z46 := Tryd.sizeOf109
  v46 := Tryd.zeroValue109
  t51 := Tryd.underlying118
  a51 := Tryd.isAgg118
  z51 := Tryd.sizeOf118
  v51 := Tryd.zeroValue118
  t146 := Tryd.underlying126
  a146 := Tryd.isAgg126
  z146 := Tryd.sizeOf126
  v146 := Tryd.zeroValue126
  g1 := by kernel_rfl }
open Go.RowKit Go.Lib in
/-- internal/stringslite.Index (what strings.Index calls) AT A substr OF ONE BYTE c: IT RETURNS 'Lib.indexByte s c'; the world is as it was. (LAID: no walk: one application.) -/
theorem Tryd.stringslite_Index_one (s : ByteArray) (c : UInt8) (w : World) :
    Calls Tryd.prog 90 #[.string s, .string ⟨#[c]⟩] w fun e w' => e = .returned (.int .i64 (Lib.indexByte s.data.toList c)) ∧ w' = w := Any.stringslite_Index_one Tryd.lays219 s c w
open Go.RowKit Go.Lib in
/-- internal/stringslite.Index (what strings.Index calls) AT A substr OF WHATEVER LENGTH: IT RETURNS 'Lib.index s substr'; the world is as it was. 'm': what internal/bytealg.MaxLen holds: whatever. (LAID: no walk: one application.) -/
theorem Tryd.stringslite_Index (s sub : ByteArray) (m : Int) (w : World) (hs : s.size < 4294967281) (hm : w.cell? ⟨1, 0, none⟩ = some (.int .i64 m)) :
    Calls Tryd.prog 90 #[.string s, .string sub] w fun e w' => e = .returned (.int .i64 (Lib.index s.data.toList sub.data.toList)) ∧ w' = w := Any.stringslite_Index Tryd.lays219 s sub m w hs hm
def Tryd.lays143_ren : Go.Shelf.Ren := ⟨fun | 143 => 79 | 219 => 90 | 217 => 99 | 225 => 100 | 224 => 101 | 267 => 102 | 266 => 105 | 314 => 106 | n => n, fun | 9 => 9 | 3 => 3 | 4 => 4 | 5 => 5 | 46 => 109 | 146 => 126 | 51 => 118 | n => n, fun | 1 => 1 | n => n⟩
theorem Tryd.lays143 : Go.Proofs.Lays.n143 Tryd.prog Tryd.lays143_ren := {
  mixed := by kernel_rfl
  f143 := Tryd.func79.trans (congrArg some (by kernel_rfl))
  f217 := Tryd.func99.trans (congrArg some (by kernel_rfl))
  f219 := Tryd.func90.trans (congrArg some (by kernel_rfl))
  f224 := Tryd.func101.trans (congrArg some (by kernel_rfl))
  f225 := Tryd.func100.trans (congrArg some (by kernel_rfl))
  f266 := Tryd.func105.trans (congrArg some (by kernel_rfl))
  f267 := Tryd.func102.trans (congrArg some (by kernel_rfl))
  f314 := Tryd.func106.trans (congrArg some (by kernel_rfl))
  t3 := Tryd.underlying3
  a3 := Tryd.isAgg3
  z3 := Tryd.sizeOf3
  v3 := Tryd.zeroValue3
  t4 := Tryd.underlying4
  a4 := Tryd.isAgg4
  z4 := Tryd.sizeOf4
  v4 := Tryd.zeroValue4
  t5 := Tryd.underlying5
  a5 := Tryd.isAgg5
  z5 := Tryd.sizeOf5
  v5 := Tryd.zeroValue5
  t9 := Tryd.underlying9
  a9 := Tryd.isAgg9
  z9 := Tryd.sizeOf9
  v9 := Tryd.zeroValue9
  t46 := Tryd.underlying109
  a46 := Tryd.isAgg109
  z46 := Tryd.sizeOf109
  v46 := Tryd.zeroValue109
  t51 := Tryd.underlying118
  a51 := Tryd.isAgg118
  z51 := Tryd.sizeOf118
  v51 := Tryd.zeroValue118
  t146 := Tryd.underlying126
  a146 := Tryd.isAgg126
  z146 := Tryd.sizeOf126
  v146 := Tryd.zeroValue126
  g1 := by kernel_rfl }
open Go.RowKit Go.Lib in
/-- strings.Index: "Index returns the index of the first instance of substr in s, or -1 if substr is not present in s.": AT A substr OF ONE BYTE c: IT RETURNS 'Lib.indexByte s c'; the world is as it was. (LAID: no walk: one application.) -/
theorem Tryd.strings_Index_one (s : ByteArray) (c : UInt8) (w : World) :
    Calls Tryd.prog 79 #[.string s, .string ⟨#[c]⟩] w fun e w' => e = .returned (.int .i64 (Lib.indexByte s.data.toList c)) ∧ w' = w := Any.strings_Index_one Tryd.lays143 s c w
open Go.RowKit Go.Lib in
/-- strings.Index: "Index returns the index of the first instance of substr in s, or -1 if substr is not present in s.": IT RETURNS 'Lib.index s substr'; the world is as it was. (LAID: no walk: one application.) -/
theorem Tryd.strings_Index (s sub : ByteArray) (m : Int) (w : World) (hs : s.size < 4294967281) (hm : w.cell? ⟨1, 0, none⟩ = some (.int .i64 m)) :
    Calls Tryd.prog 79 #[.string s, .string sub] w fun e w' => e = .returned (.int .i64 (Lib.index s.data.toList sub.data.toList)) ∧ w' = w := Any.strings_Index Tryd.lays143 s sub m w hs hm
def Tryd.lays220_ren : Go.Shelf.Ren := ⟨fun | 220 => 81 | 219 => 90 | 217 => 99 | 225 => 100 | 224 => 101 | 267 => 102 | 266 => 105 | 314 => 106 | n => n, fun | 9 => 9 | 4 => 4 | 3 => 3 | 5 => 5 | 46 => 109 | 146 => 126 | 51 => 118 | n => n, fun | 1 => 1 | n => n⟩
theorem Tryd.lays220 : Go.Proofs.Lays.n220 Tryd.prog Tryd.lays220_ren := {
  mixed := by kernel_rfl
  f217 := Tryd.func99.trans (congrArg some (by kernel_rfl))
  f219 := Tryd.func90.trans (congrArg some (by kernel_rfl))
  f220 := Tryd.func81.trans (congrArg some (by kernel_rfl))
  f224 := Tryd.func101.trans (congrArg some (by kernel_rfl))
  f225 := Tryd.func100.trans (congrArg some (by kernel_rfl))
  f266 := Tryd.func105.trans (congrArg some (by kernel_rfl))
  f267 := Tryd.func102.trans (congrArg some (by kernel_rfl))
  f314 := Tryd.func106.trans (congrArg some (by kernel_rfl))
  t3 := Tryd.underlying3
  a3 := Tryd.isAgg3
  z3 := Tryd.sizeOf3
  v3 := Tryd.zeroValue3
  t4 := Tryd.underlying4
  a4 := Tryd.isAgg4
  z4 := Tryd.sizeOf4
  v4 := Tryd.zeroValue4
  t5 := Tryd.underlying5
  a5 := Tryd.isAgg5
  z5 := Tryd.sizeOf5
  v5 := Tryd.zeroValue5
  t9 := Tryd.underlying9
  a9 := Tryd.isAgg9
  z9 := Tryd.sizeOf9
  v9 := Tryd.zeroValue9
  t46 := Tryd.underlying109
  a46 := Tryd.isAgg109
  z46 := Tryd.sizeOf109
  v46 := Tryd.zeroValue109
  t51 := Tryd.underlying118
  a51 := Tryd.isAgg118
  z51 := Tryd.sizeOf118
  v51 := Tryd.zeroValue118
  t146 := Tryd.underlying126
  a146 := Tryd.isAgg126
  z146 := Tryd.sizeOf126
  v146 := Tryd.zeroValue126
  g1 := by kernel_rfl }
open Go.RowKit Go.Lib in
/-- internal/stringslite.Cut (what strings.Cut calls): IT RETURNS 'Lib.cut s sep'; the world is as it was but for the count of draws. (LAID: no walk: one application.) -/
theorem Tryd.stringslite_Cut (s sep : ByteArray) (m : Int) (w : World) (hs : s.size < 4294967281) (hm : w.cell? ⟨1, 0, none⟩ = some (.int .i64 m)) :
    Calls Tryd.prog 81 #[.string s, .string sep] w fun e w' => e = .returned (.tuple #[.string ⟨(Lib.cut s.data.toList sep.data.toList).1.toArray⟩, .string ⟨(Lib.cut s.data.toList sep.data.toList).2.1.toArray⟩, .bool (Lib.cut s.data.toList sep.data.toList).2.2]) ∧ ∃ n, w' = w.drewN n := Any.stringslite_Cut Tryd.lays220 s sep m w hs hm
def Tryd.lays145_ren : Go.Shelf.Ren := ⟨fun | 145 => 69 | 220 => 81 | 219 => 90 | 217 => 99 | 225 => 100 | 224 => 101 | 267 => 102 | 266 => 105 | 314 => 106 | n => n, fun | 9 => 9 | 4 => 4 | 59 => 91 | 3 => 3 | 5 => 5 | 46 => 109 | 146 => 126 | 51 => 118 | n => n, fun | 1 => 1 | n => n⟩
theorem Tryd.lays145 : Go.Proofs.Lays.n145 Tryd.prog Tryd.lays145_ren := {
  mixed := by kernel_rfl
  f145 := Tryd.func69.trans (congrArg some (by kernel_rfl))
  f217 := Tryd.func99.trans (congrArg some (by kernel_rfl))
  f219 := Tryd.func90.trans (congrArg some (by kernel_rfl))
  f220 := Tryd.func81.trans (congrArg some (by kernel_rfl))
  f224 := Tryd.func101.trans (congrArg some (by kernel_rfl))
  f225 := Tryd.func100.trans (congrArg some (by kernel_rfl))
  f266 := Tryd.func105.trans (congrArg some (by kernel_rfl))
  f267 := Tryd.func102.trans (congrArg some (by kernel_rfl))
  f314 := Tryd.func106.trans (congrArg some (by kernel_rfl))
  t3 := Tryd.underlying3
  a3 := Tryd.isAgg3
  z3 := Tryd.sizeOf3
  v3 := Tryd.zeroValue3
  t4 := Tryd.underlying4
  a4 := Tryd.isAgg4
  z4 := Tryd.sizeOf4
  v4 := Tryd.zeroValue4
  t5 := Tryd.underlying5
  a5 := Tryd.isAgg5
  z5 := Tryd.sizeOf5
  v5 := Tryd.zeroValue5
  t9 := Tryd.underlying9
  a9 := Tryd.isAgg9
  z9 := Tryd.sizeOf9
  v9 := Tryd.zeroValue9
  t46 := Tryd.underlying109
  a46 := Tryd.isAgg109
  z46 := Tryd.sizeOf109
  v46 := Tryd.zeroValue109
  t51 := Tryd.underlying118
  a51 := Tryd.isAgg118
  z51 := Tryd.sizeOf118
  v51 := Tryd.zeroValue118
  t59 := Tryd.underlying91
  a59 := Tryd.isAgg91
  z59 := Tryd.sizeOf91
  v59 := Tryd.zeroValue91
  t146 := Tryd.underlying126
  a146 := Tryd.isAgg126
  z146 := Tryd.sizeOf126
  v146 := Tryd.zeroValue126
  g1 := by kernel_rfl }
open Go.RowKit Go.Lib in
/-- strings.Cut: "Cut slices s around the first instance of sep, returning the text before and after sep. The found result reports whether sep appears in s. If sep does not appear in s, cut returns s, "", false.": IT RETURNS 'Lib.cut s sep'; the world is as it was but for the count of draws. (LAID: no walk: one application.) -/
theorem Tryd.strings_Cut (s sep : ByteArray) (m : Int) (w : World) (hs : s.size < 4294967281) (hm : w.cell? ⟨1, 0, none⟩ = some (.int .i64 m)) :
    Calls Tryd.prog 69 #[.string s, .string sep] w fun e w' => e = .returned (.tuple #[.string ⟨(Lib.cut s.data.toList sep.data.toList).1.toArray⟩, .string ⟨(Lib.cut s.data.toList sep.data.toList).2.1.toArray⟩, .bool (Lib.cut s.data.toList sep.data.toList).2.2]) ∧ ∃ n, w' = w.drewN n := Any.strings_Cut Tryd.lays145 s sep m w hs hm
def Tryd.lays138_ren : Go.Shelf.Ren := ⟨fun | 138 => 78 | 195 => 87 | 218 => 89 | 143 => 79 | 219 => 90 | 217 => 99 | 225 => 100 | 224 => 101 | 267 => 102 | 266 => 105 | 314 => 106 | n => n, fun | 9 => 9 | 3 => 3 | 4 => 4 | 5 => 5 | 0 => 0 | 46 => 109 | 146 => 126 | 51 => 118 | n => n, fun | 1 => 1 | n => n⟩
theorem Tryd.lays138 : Go.Proofs.Lays.n138 Tryd.prog Tryd.lays138_ren := {
  mixed := by kernel_rfl
  f138 := Tryd.func78.trans (congrArg some (by kernel_rfl))
  f143 := Tryd.func79.trans (congrArg some (by kernel_rfl))
  f195 := Tryd.func87.trans (congrArg some (by kernel_rfl))
  f217 := Tryd.func99.trans (congrArg some (by kernel_rfl))
  f218 := Tryd.func89.trans (congrArg some (by kernel_rfl))
  f219 := Tryd.func90.trans (congrArg some (by kernel_rfl))
  f224 := Tryd.func101.trans (congrArg some (by kernel_rfl))
  f225 := Tryd.func100.trans (congrArg some (by kernel_rfl))
  f266 := Tryd.func105.trans (congrArg some (by kernel_rfl))
  f267 := Tryd.func102.trans (congrArg some (by kernel_rfl))
  f314 := Tryd.func106.trans (congrArg some (by kernel_rfl))
  t0 := Tryd.underlying0
  a0 := Tryd.isAgg0
  z0 := Tryd.sizeOf0
  v0 := Tryd.zeroValue0
  t3 := Tryd.underlying3
  a3 := Tryd.isAgg3
  z3 := Tryd.sizeOf3
  v3 := Tryd.zeroValue3
  t4 := Tryd.underlying4
  a4 := Tryd.isAgg4
  z4 := Tryd.sizeOf4
  v4 := Tryd.zeroValue4
  t5 := Tryd.underlying5
  a5 := Tryd.isAgg5
  z5 := Tryd.sizeOf5
  v5 := Tryd.zeroValue5
  t9 := Tryd.underlying9
  a9 := Tryd.isAgg9
  z9 := Tryd.sizeOf9
  v9 := Tryd.zeroValue9
  t46 := Tryd.underlying109
  a46 := Tryd.isAgg109
  z46 := Tryd.sizeOf109
  v46 := Tryd.zeroValue109
  t51 := Tryd.underlying118
  a51 := Tryd.isAgg118
  z51 := Tryd.sizeOf118
  v51 := Tryd.zeroValue118
  t146 := Tryd.underlying126
  a146 := Tryd.isAgg126
  z146 := Tryd.sizeOf126
  v146 := Tryd.zeroValue126
  g1 := by kernel_rfl }
open Go.RowKit Go.Lib in
/-- strings.Count AT A substr OF ONE BYTE ('hp'): "Count counts the number of non-overlapping instances of substr in s.": IT RETURNS 'Lib.countByte s (that byte)'; the world is as it was. ✋ NO CONTRACT HERE YET at an empty substr (utf8.RuneCountInString) or at a longer one (a loop over strings.Index). (LAID: no walk: one application.) -/
theorem Tryd.strings_Count_one (s : ByteArray) (c : UInt8) (w : World) :
    Calls Tryd.prog 78 #[.string s, .string ⟨#[c]⟩] w fun e w' => e = .returned (.int .i64 (Lib.countByte s.data.toList c)) ∧ w' = w := Any.strings_Count_one Tryd.lays138 s c w
open Go.RowKit Go.Lib in
/-- strings.Count AT A substr OF TWO BYTES OR MORE: "Count counts the number of non-overlapping instances of substr in s.": IT RETURNS 'Lib.count s substr'; the world is as it was. (LAID: no walk: one application.) -/
theorem Tryd.strings_Count (s sub : ByteArray) (m : Int) (w : World) (hs : s.size < 4294967281) (hm : w.cell? ⟨1, 0, none⟩ = some (.int .i64 m)) (h2 : 2 ≤ sub.size) :
    Calls Tryd.prog 78 #[.string s, .string sub] w fun e w' => e = .returned (.int .i64 (Lib.countB s sub)) ∧ w' = w := Any.strings_Count Tryd.lays138 s sub m w hs hm h2
def Tryd.laysM219_ren : Go.Shelf.Ren := ⟨fun | 219 => 90 | 217 => 99 | 225 => 100 | 224 => 101 | 267 => 102 | 266 => 105 | 314 => 106 | n => n, fun | 9 => 9 | 3 => 3 | 4 => 4 | 5 => 5 | 46 => 109 | 146 => 126 | 51 => 118 | n => n, fun | 1 => 1 | n => n⟩
theorem Tryd.laysM219 : Go.Proofs.LaysM.n219 Tryd.prog Tryd.laysM219_ren := {
  mixed := by kernel_rfl
  f217 := Tryd.func99.trans (congrArg some (by kernel_rfl))
  f219 := Tryd.func90.trans (congrArg some (by kernel_rfl))
  f224 := Tryd.func101.trans (congrArg some (by kernel_rfl))
  f225 := Tryd.func100.trans (congrArg some (by kernel_rfl))
  f266 := Tryd.func105.trans (congrArg some (by kernel_rfl))
  f267 := Tryd.func102.trans (congrArg some (by kernel_rfl))
  f314 := Tryd.func106.trans (congrArg some (by kernel_rfl))
  t3 := Tryd.underlying3
  a3 := Tryd.isAgg3
  z3 := Tryd.sizeOf3
  v3 := Tryd.zeroValue3
  t4 := Tryd.underlying4
  a4 := Tryd.isAgg4
  z4 := Tryd.sizeOf4
  v4 := Tryd.zeroValue4
  t5 := Tryd.underlying5
  a5 := Tryd.isAgg5
  z5 := Tryd.sizeOf5
  v5 := Tryd.zeroValue5
  t9 := Tryd.underlying9
  a9 := Tryd.isAgg9
  z9 := Tryd.sizeOf9
  v9 := Tryd.zeroValue9
  t46 := Tryd.underlying109
  a46 := Tryd.isAgg109
  z46 := Tryd.sizeOf109
  v46 := Tryd.zeroValue109
  t51 := Tryd.underlying118
  a51 := Tryd.isAgg118
  z51 := Tryd.sizeOf118
  v51 := Tryd.zeroValue118
  t146 := Tryd.underlying126
  a146 := Tryd.isAgg126
  z146 := Tryd.sizeOf126
  v146 := Tryd.zeroValue126
  g1 := by kernel_rfl
  i3 := by kernel_rfl
  i4 := by kernel_rfl
  i5 := by kernel_rfl
  i9 := by kernel_rfl
  i46 := by kernel_rfl
  i51 := by kernel_rfl
  i146 := by kernel_rfl
  m1 := by kernel_rfl
  s1_3 := fun w h => Go.Proofs.cell_of_shapedOpen_int (zero := #[.int .i64 0]) (t := 3) h (of_decide_eq_true (by kernel_rfl)) (by kernel_rfl) rfl (by kernel_rfl) (by kernel_rfl) Tryd.underlying3 }
open Go.RowKit Go.Lib in
theorem Tryd.stringslite_Index_shaped (s sub : ByteArray) (w : World) (h : w.ShapedOpen Tryd.prog) (hs : s.size < 4294967281) :
    Calls Tryd.prog 90 #[.string s, .string sub] w fun e w' => e = .returned (.int .i64 (Lib.index s.data.toList sub.data.toList)) ∧ w' = w := Any.stringslite_Index_shaped Tryd.laysM219 s sub w h hs
def Tryd.laysM143_ren : Go.Shelf.Ren := ⟨fun | 143 => 79 | 219 => 90 | 217 => 99 | 225 => 100 | 224 => 101 | 267 => 102 | 266 => 105 | 314 => 106 | n => n, fun | 9 => 9 | 3 => 3 | 4 => 4 | 5 => 5 | 46 => 109 | 146 => 126 | 51 => 118 | n => n, fun | 1 => 1 | n => n⟩
theorem Tryd.laysM143 : Go.Proofs.LaysM.n143 Tryd.prog Tryd.laysM143_ren := {
  mixed := by kernel_rfl
  f143 := Tryd.func79.trans (congrArg some (by kernel_rfl))
  f217 := Tryd.func99.trans (congrArg some (by kernel_rfl))
  f219 := Tryd.func90.trans (congrArg some (by kernel_rfl))
  f224 := Tryd.func101.trans (congrArg some (by kernel_rfl))
  f225 := Tryd.func100.trans (congrArg some (by kernel_rfl))
  f266 := Tryd.func105.trans (congrArg some (by kernel_rfl))
  f267 := Tryd.func102.trans (congrArg some (by kernel_rfl))
  f314 := Tryd.func106.trans (congrArg some (by kernel_rfl))
  t3 := Tryd.underlying3
  a3 := Tryd.isAgg3
  z3 := Tryd.sizeOf3
  v3 := Tryd.zeroValue3
  t4 := Tryd.underlying4
  a4 := Tryd.isAgg4
  z4 := Tryd.sizeOf4
  v4 := Tryd.zeroValue4
  t5 := Tryd.underlying5
  a5 := Tryd.isAgg5
  z5 := Tryd.sizeOf5
  v5 := Tryd.zeroValue5
  t9 := Tryd.underlying9
  a9 := Tryd.isAgg9
  z9 := Tryd.sizeOf9
  v9 := Tryd.zeroValue9
  t46 := Tryd.underlying109
  a46 := Tryd.isAgg109
  z46 := Tryd.sizeOf109
  v46 := Tryd.zeroValue109
  t51 := Tryd.underlying118
  a51 := Tryd.isAgg118
  z51 := Tryd.sizeOf118
  v51 := Tryd.zeroValue118
  t146 := Tryd.underlying126
  a146 := Tryd.isAgg126
  z146 := Tryd.sizeOf126
  v146 := Tryd.zeroValue126
  g1 := by kernel_rfl
  i3 := by kernel_rfl
  i4 := by kernel_rfl
  i5 := by kernel_rfl
  i9 := by kernel_rfl
  i46 := by kernel_rfl
  i51 := by kernel_rfl
  i146 := by kernel_rfl
  m1 := by kernel_rfl
  s1_3 := fun w h => Go.Proofs.cell_of_shapedOpen_int (zero := #[.int .i64 0]) (t := 3) h (of_decide_eq_true (by kernel_rfl)) (by kernel_rfl) rfl (by kernel_rfl) (by kernel_rfl) Tryd.underlying3 }
open Go.RowKit Go.Lib in
theorem Tryd.strings_Index_shaped (s sub : ByteArray) (w : World) (h : w.ShapedOpen Tryd.prog) (hs : s.size < 4294967281) :
    Calls Tryd.prog 79 #[.string s, .string sub] w fun e w' => e = .returned (.int .i64 (Lib.index s.data.toList sub.data.toList)) ∧ w' = w := Any.strings_Index_shaped Tryd.laysM143 s sub w h hs
def Tryd.laysM220_ren : Go.Shelf.Ren := ⟨fun | 220 => 81 | 219 => 90 | 217 => 99 | 225 => 100 | 224 => 101 | 267 => 102 | 266 => 105 | 314 => 106 | n => n, fun | 9 => 9 | 4 => 4 | 3 => 3 | 5 => 5 | 46 => 109 | 146 => 126 | 51 => 118 | n => n, fun | 1 => 1 | n => n⟩
theorem Tryd.laysM220 : Go.Proofs.LaysM.n220 Tryd.prog Tryd.laysM220_ren := {
  mixed := by kernel_rfl
  f217 := Tryd.func99.trans (congrArg some (by kernel_rfl))
  f219 := Tryd.func90.trans (congrArg some (by kernel_rfl))
  f220 := Tryd.func81.trans (congrArg some (by kernel_rfl))
  f224 := Tryd.func101.trans (congrArg some (by kernel_rfl))
  f225 := Tryd.func100.trans (congrArg some (by kernel_rfl))
  f266 := Tryd.func105.trans (congrArg some (by kernel_rfl))
  f267 := Tryd.func102.trans (congrArg some (by kernel_rfl))
  f314 := Tryd.func106.trans (congrArg some (by kernel_rfl))
  t3 := Tryd.underlying3
  a3 := Tryd.isAgg3
  z3 := Tryd.sizeOf3
  v3 := Tryd.zeroValue3
  t4 := Tryd.underlying4
  a4 := Tryd.isAgg4
  z4 := Tryd.sizeOf4
  v4 := Tryd.zeroValue4
  t5 := Tryd.underlying5
  a5 := Tryd.isAgg5
  z5 := Tryd.sizeOf5
  v5 := Tryd.zeroValue5
  t9 := Tryd.underlying9
  a9 := Tryd.isAgg9
  z9 := Tryd.sizeOf9
  v9 := Tryd.zeroValue9
  t46 := Tryd.underlying109
  a46 := Tryd.isAgg109
  z46 := Tryd.sizeOf109
  v46 := Tryd.zeroValue109
  t51 := Tryd.underlying118
  a51 := Tryd.isAgg118
  z51 := Tryd.sizeOf118
  v51 := Tryd.zeroValue118
  t146 := Tryd.underlying126
  a146 := Tryd.isAgg126
  z146 := Tryd.sizeOf126
  v146 := Tryd.zeroValue126
  g1 := by kernel_rfl
  i3 := by kernel_rfl
  i4 := by kernel_rfl
  i5 := by kernel_rfl
  i9 := by kernel_rfl
  i46 := by kernel_rfl
  i51 := by kernel_rfl
  i146 := by kernel_rfl
  m1 := by kernel_rfl
  s1_3 := fun w h => Go.Proofs.cell_of_shapedOpen_int (zero := #[.int .i64 0]) (t := 3) h (of_decide_eq_true (by kernel_rfl)) (by kernel_rfl) rfl (by kernel_rfl) (by kernel_rfl) Tryd.underlying3 }
open Go.RowKit Go.Lib in
theorem Tryd.stringslite_Cut_shaped (s sep : ByteArray) (w : World) (h : w.ShapedOpen Tryd.prog) (hs : s.size < 4294967281) :
    Calls Tryd.prog 81 #[.string s, .string sep] w fun e w' => e = .returned (.tuple #[.string ⟨(Lib.cut s.data.toList sep.data.toList).1.toArray⟩, .string ⟨(Lib.cut s.data.toList sep.data.toList).2.1.toArray⟩, .bool (Lib.cut s.data.toList sep.data.toList).2.2]) ∧ ∃ n, w' = w.drewN n := Any.stringslite_Cut_shaped Tryd.laysM220 s sep w h hs
def Tryd.laysM145_ren : Go.Shelf.Ren := ⟨fun | 145 => 69 | 220 => 81 | 219 => 90 | 217 => 99 | 225 => 100 | 224 => 101 | 267 => 102 | 266 => 105 | 314 => 106 | n => n, fun | 9 => 9 | 4 => 4 | 59 => 91 | 3 => 3 | 5 => 5 | 46 => 109 | 146 => 126 | 51 => 118 | n => n, fun | 1 => 1 | n => n⟩
theorem Tryd.laysM145 : Go.Proofs.LaysM.n145 Tryd.prog Tryd.laysM145_ren := {
  mixed := by kernel_rfl
  f145 := Tryd.func69.trans (congrArg some (by kernel_rfl))
  f217 := Tryd.func99.trans (congrArg some (by kernel_rfl))
  f219 := Tryd.func90.trans (congrArg some (by kernel_rfl))
  f220 := Tryd.func81.trans (congrArg some (by kernel_rfl))
  f224 := Tryd.func101.trans (congrArg some (by kernel_rfl))
  f225 := Tryd.func100.trans (congrArg some (by kernel_rfl))
  f266 := Tryd.func105.trans (congrArg some (by kernel_rfl))
  f267 := Tryd.func102.trans (congrArg some (by kernel_rfl))
  f314 := Tryd.func106.trans (congrArg some (by kernel_rfl))
  t3 := Tryd.underlying3
  a3 := Tryd.isAgg3
  z3 := Tryd.sizeOf3
  v3 := Tryd.zeroValue3
  t4 := Tryd.underlying4
  a4 := Tryd.isAgg4
  z4 := Tryd.sizeOf4
  v4 := Tryd.zeroValue4
  t5 := Tryd.underlying5
  a5 := Tryd.isAgg5
  z5 := Tryd.sizeOf5
  v5 := Tryd.zeroValue5
  t9 := Tryd.underlying9
  a9 := Tryd.isAgg9
  z9 := Tryd.sizeOf9
  v9 := Tryd.zeroValue9
  t46 := Tryd.underlying109
  a46 := Tryd.isAgg109
  z46 := Tryd.sizeOf109
  v46 := Tryd.zeroValue109
  t51 := Tryd.underlying118
  a51 := Tryd.isAgg118
  z51 := Tryd.sizeOf118
  v51 := Tryd.zeroValue118
  t59 := Tryd.underlying91
  a59 := Tryd.isAgg91
  z59 := Tryd.sizeOf91
  v59 := Tryd.zeroValue91
  t146 := Tryd.underlying126
  a146 := Tryd.isAgg126
  z146 := Tryd.sizeOf126
  v146 := Tryd.zeroValue126
  g1 := by kernel_rfl
  i3 := by kernel_rfl
  i4 := by kernel_rfl
  i5 := by kernel_rfl
  i9 := by kernel_rfl
  i46 := by kernel_rfl
  i51 := by kernel_rfl
  i59 := by kernel_rfl
  i146 := by kernel_rfl
  m1 := by kernel_rfl
  s1_3 := fun w h => Go.Proofs.cell_of_shapedOpen_int (zero := #[.int .i64 0]) (t := 3) h (of_decide_eq_true (by kernel_rfl)) (by kernel_rfl) rfl (by kernel_rfl) (by kernel_rfl) Tryd.underlying3 }
open Go.RowKit Go.Lib in
theorem Tryd.strings_Cut_shaped (s sep : ByteArray) (w : World) (h : w.ShapedOpen Tryd.prog) (hs : s.size < 4294967281) :
    Calls Tryd.prog 69 #[.string s, .string sep] w fun e w' => e = .returned (.tuple #[.string ⟨(Lib.cut s.data.toList sep.data.toList).1.toArray⟩, .string ⟨(Lib.cut s.data.toList sep.data.toList).2.1.toArray⟩, .bool (Lib.cut s.data.toList sep.data.toList).2.2]) ∧ ∃ n, w' = w.drewN n := Any.strings_Cut_shaped Tryd.laysM145 s sep w h hs
def Tryd.laysM138_ren : Go.Shelf.Ren := ⟨fun | 138 => 78 | 195 => 87 | 218 => 89 | 143 => 79 | 219 => 90 | 217 => 99 | 225 => 100 | 224 => 101 | 267 => 102 | 266 => 105 | 314 => 106 | n => n, fun | 9 => 9 | 3 => 3 | 4 => 4 | 5 => 5 | 0 => 0 | 46 => 109 | 146 => 126 | 51 => 118 | n => n, fun | 1 => 1 | n => n⟩
theorem Tryd.laysM138 : Go.Proofs.LaysM.n138 Tryd.prog Tryd.laysM138_ren := {
  mixed := by kernel_rfl
  f138 := Tryd.func78.trans (congrArg some (by kernel_rfl))
  f143 := Tryd.func79.trans (congrArg some (by kernel_rfl))
  f195 := Tryd.func87.trans (congrArg some (by kernel_rfl))
  f217 := Tryd.func99.trans (congrArg some (by kernel_rfl))
  f218 := Tryd.func89.trans (congrArg some (by kernel_rfl))
  f219 := Tryd.func90.trans (congrArg some (by kernel_rfl))
  f224 := Tryd.func101.trans (congrArg some (by kernel_rfl))
  f225 := Tryd.func100.trans (congrArg some (by kernel_rfl))
  f266 := Tryd.func105.trans (congrArg some (by kernel_rfl))
  f267 := Tryd.func102.trans (congrArg some (by kernel_rfl))
  f314 := Tryd.func106.trans (congrArg some (by kernel_rfl))
  t0 := Tryd.underlying0
  a0 := Tryd.isAgg0
  z0 := Tryd.sizeOf0
  v0 := Tryd.zeroValue0
  t3 := Tryd.underlying3
  a3 := Tryd.isAgg3
  z3 := Tryd.sizeOf3
  v3 := Tryd.zeroValue3
  t4 := Tryd.underlying4
  a4 := Tryd.isAgg4
  z4 := Tryd.sizeOf4
  v4 := Tryd.zeroValue4
  t5 := Tryd.underlying5
  a5 := Tryd.isAgg5
  z5 := Tryd.sizeOf5
  v5 := Tryd.zeroValue5
  t9 := Tryd.underlying9
  a9 := Tryd.isAgg9
  z9 := Tryd.sizeOf9
  v9 := Tryd.zeroValue9
  t46 := Tryd.underlying109
  a46 := Tryd.isAgg109
  z46 := Tryd.sizeOf109
  v46 := Tryd.zeroValue109
  t51 := Tryd.underlying118
  a51 := Tryd.isAgg118
  z51 := Tryd.sizeOf118
  v51 := Tryd.zeroValue118
  t146 := Tryd.underlying126
  a146 := Tryd.isAgg126
  z146 := Tryd.sizeOf126
  v146 := Tryd.zeroValue126
  g1 := by kernel_rfl
  i0 := by kernel_rfl
  i3 := by kernel_rfl
  i4 := by kernel_rfl
  i5 := by kernel_rfl
  i9 := by kernel_rfl
  i46 := by kernel_rfl
  i51 := by kernel_rfl
  i146 := by kernel_rfl
  m1 := by kernel_rfl
  s1_3 := fun w h => Go.Proofs.cell_of_shapedOpen_int (zero := #[.int .i64 0]) (t := 3) h (of_decide_eq_true (by kernel_rfl)) (by kernel_rfl) rfl (by kernel_rfl) (by kernel_rfl) Tryd.underlying3 }
open Go.RowKit Go.Lib in
theorem Tryd.strings_Count_shaped (s sub : ByteArray) (w : World) (h : w.ShapedOpen Tryd.prog) (hs : s.size < 4294967281) (h2 : 2 ≤ sub.size) :
    Calls Tryd.prog 78 #[.string s, .string sub] w fun e w' => e = .returned (.int .i64 (Lib.countB s sub)) ∧ w' = w := Any.strings_Count_shaped Tryd.laysM138 s sub w h hs h2
def Tryd.lays206_ren : Go.Shelf.Ren := ⟨fun | 206 => 91 | n => n, fun | 9 => 9 | 4 => 4 | 3 => 3 | n => n, fun | n => n⟩
theorem Tryd.lays206 : Go.Proofs.Lays.n206 Tryd.prog Tryd.lays206_ren := {
  mixed := by kernel_rfl
  f206 := Tryd.func91.trans (congrArg some (by kernel_rfl))
  t3 := Tryd.underlying3
  a3 := Tryd.isAgg3
  z3 := Tryd.sizeOf3
  v3 := Tryd.zeroValue3
  t4 := Tryd.underlying4
  a4 := Tryd.isAgg4
  z4 := Tryd.sizeOf4
  v4 := Tryd.zeroValue4
  t9 := Tryd.underlying9
  a9 := Tryd.isAgg9
  z9 := Tryd.sizeOf9
  v9 := Tryd.zeroValue9 }
open Go.RowKit Go.Lib in
/-- internal/stringslite.HasPrefix (what strings.HasPrefix calls). (LAID: no walk: one application.) -/
theorem Tryd.stringslite_HasPrefix (s p : ByteArray) (w : World) :
    Calls Tryd.prog 91 #[.string s, .string p] w fun e w' => e = .returned (.bool (Lib.hasPrefix s.data.toList p.data.toList)) ∧ w' = w := Any.stringslite_HasPrefix Tryd.lays206 s p w
open Go.RowKit Go.Lib in
/-- strings.Count at whatever sep that is not empty: the two roads under one statement. (LAID: no walk: one application.) -/
theorem Tryd.strings_Count_any (s sep : ByteArray) (m : Int) (w : World) (hs : s.size < 4294967281) (hm : w.cell? ⟨1, 0, none⟩ = some (.int .i64 m)) (h1 : 1 ≤ sep.size) :
    Calls Tryd.prog 78 #[.string s, .string sep] w fun e w' => e = .returned (.int .i64 (Lib.countB s sep)) ∧ w' = w := Any.strings_Count_any Tryd.lays138 s sep m w hs hm h1
def Tryd.lays221_ren : Go.Shelf.Ren := ⟨fun | 221 => 66 | 268 => 77 | 138 => 78 | 143 => 79 | 195 => 87 | 197 => 88 | 218 => 89 | 219 => 90 | 260 => 98 | 217 => 99 | 225 => 100 | 224 => 101 | 267 => 102 | 266 => 105 | 314 => 106 | n => n, fun | 9 => 9 | 3 => 3 | 31 => 75 | 4 => 4 | 0 => 0 | 105 => 111 | 21 => 21 | 5 => 5 | 46 => 109 | 119 => 122 | 139 => 125 | 138 => 124 | 146 => 126 | 51 => 118 | n => n, fun | 1 => 1 | 3 => 2 | 4 => 3 | n => n⟩
theorem Tryd.lays221 : Go.Proofs.Lays.n221 Tryd.prog Tryd.lays221_ren := {
  mixed := by kernel_rfl
  f138 := Tryd.func78.trans (congrArg some (by kernel_rfl))
  f143 := Tryd.func79.trans (congrArg some (by kernel_rfl))
  f195 := Tryd.func87.trans (congrArg some (by kernel_rfl))
  f197 := Tryd.func88.trans (congrArg some (by kernel_rfl))
  f217 := Tryd.func99.trans (congrArg some (by kernel_rfl))
  f218 := Tryd.func89.trans (congrArg some (by kernel_rfl))
  f219 := Tryd.func90.trans (congrArg some (by kernel_rfl))
  f221 := Tryd.func66.trans (congrArg some (by kernel_rfl))
  f224 := Tryd.func101.trans (congrArg some (by kernel_rfl))
  f225 := Tryd.func100.trans (congrArg some (by kernel_rfl))
  f260 := Tryd.func98.trans (congrArg some (by kernel_rfl))
  f266 := Tryd.func105.trans (congrArg some (by kernel_rfl))
  f267 := Tryd.func102.trans (congrArg some (by kernel_rfl))
  f268 := Tryd.func77.trans (congrArg some (by kernel_rfl))
  f314 := Tryd.func106.trans (congrArg some (by kernel_rfl))
  t0 := Tryd.underlying0
  a0 := Tryd.isAgg0
  z0 := Tryd.sizeOf0
  v0 := Tryd.zeroValue0
  t3 := Tryd.underlying3
  a3 := Tryd.isAgg3
  z3 := Tryd.sizeOf3
  v3 := Tryd.zeroValue3
  t4 := Tryd.underlying4
  a4 := Tryd.isAgg4
  z4 := Tryd.sizeOf4
  v4 := Tryd.zeroValue4
  t5 := Tryd.underlying5
  a5 := Tryd.isAgg5
  z5 := Tryd.sizeOf5
  v5 := Tryd.zeroValue5
  t9 := Tryd.underlying9
  a9 := Tryd.isAgg9
  z9 := Tryd.sizeOf9
  v9 := Tryd.zeroValue9
  t21 := Tryd.underlying21
  a21 := Tryd.isAgg21
  z21 := Tryd.sizeOf21
  v21 := Tryd.zeroValue21
  t31 := Tryd.underlying75
  a31 := Tryd.isAgg75
  z31 := Tryd.sizeOf75
  v31 := Tryd.zeroValue75
  t46 := Tryd.underlying109
  a46 := Tryd.isAgg109
  z46 := Tryd.sizeOf109
  v46 := Tryd.zeroValue109
  t51 := Tryd.underlying118
  a51 := Tryd.isAgg118
  z51 := Tryd.sizeOf118
  v51 := Tryd.zeroValue118
  t105 := Tryd.underlying111
  a105 := Tryd.isAgg111
  z105 := Tryd.sizeOf111
  v105 := Tryd.zeroValue111
  t119 := Tryd.underlying122
  a119 := Tryd.isAgg122
  z119 := Tryd.sizeOf122
  t138 := Tryd.underlying124
  a138 := Tryd.isAgg124
  z138 := Tryd.sizeOf124
  v138 := Tryd.zeroValue124
  t139 := Tryd.underlying125
  a139 := Tryd.isAgg125
  z139 := Tryd.sizeOf125
  v139 := Tryd.zeroValue125
  t146 := Tryd.underlying126
  a146 := Tryd.isAgg126
  z146 := Tryd.sizeOf126
  v146 := Tryd.zeroValue126
  g1 := by kernel_rfl
  g3 := by kernel_rfl
  g4 := by kernel_rfl }
open Go.RowKit Go.Lib in
theorem Tryd.strings_genSplit (s sep : ByteArray) (sv : Nat) (n : Int) (N : Nat) (m : Int) (w : World) (hs : s.size < 4294967281) (hm : w.cell? ⟨1, 0, none⟩ = some (.int .i64 m)) (h1 : 1 ≤ sep.size) (hsv : sv ≤ sep.size) (hn0 : n ≠ 0) (hn63 : n ≤ 9223372036854775807) (hN : (N : Int) = min (if n < 0 then (Lib.countB s sep : Int) + 1 else n) ((s.size : Int) + 1)) :
    Calls Tryd.prog 66 #[.string s, .string sep, .int .i64 sv, .int .i64 n] w fun e w' =>
      e = .returned (.slice (some ⟨w.heap.size, 0, none⟩) (Lib.splitB sep sv (N - 1) s).length N) ∧ w' = w.alloc (.cells (Lib.cellsOf (Lib.splitB sep sv (N - 1) s) N) 9) := Any.strings_genSplit Tryd.lays221 (by kernel_rfl) s sep sv n N m w hs hm h1 hsv hn0 hn63 hN
def Tryd.lays146_ren : Go.Shelf.Ren := ⟨fun | 146 => 53 | 221 => 66 | 268 => 77 | 138 => 78 | 143 => 79 | 195 => 87 | 197 => 88 | 218 => 89 | 219 => 90 | 260 => 98 | 217 => 99 | 225 => 100 | 224 => 101 | 267 => 102 | 266 => 105 | 314 => 106 | n => n, fun | 9 => 9 | 31 => 75 | 3 => 3 | 4 => 4 | 0 => 0 | 105 => 111 | 21 => 21 | 5 => 5 | 46 => 109 | 119 => 122 | 139 => 125 | 138 => 124 | 146 => 126 | 51 => 118 | n => n, fun | 1 => 1 | 3 => 2 | 4 => 3 | n => n⟩
theorem Tryd.lays146 : Go.Proofs.Lays.n146 Tryd.prog Tryd.lays146_ren := {
  mixed := by kernel_rfl
  f138 := Tryd.func78.trans (congrArg some (by kernel_rfl))
  f143 := Tryd.func79.trans (congrArg some (by kernel_rfl))
  f146 := Tryd.func53.trans (congrArg some (by kernel_rfl))
  f195 := Tryd.func87.trans (congrArg some (by kernel_rfl))
  f197 := Tryd.func88.trans (congrArg some (by kernel_rfl))
  f217 := Tryd.func99.trans (congrArg some (by kernel_rfl))
  f218 := Tryd.func89.trans (congrArg some (by kernel_rfl))
  f219 := Tryd.func90.trans (congrArg some (by kernel_rfl))
  f221 := Tryd.func66.trans (congrArg some (by kernel_rfl))
  f224 := Tryd.func101.trans (congrArg some (by kernel_rfl))
  f225 := Tryd.func100.trans (congrArg some (by kernel_rfl))
  f260 := Tryd.func98.trans (congrArg some (by kernel_rfl))
  f266 := Tryd.func105.trans (congrArg some (by kernel_rfl))
  f267 := Tryd.func102.trans (congrArg some (by kernel_rfl))
  f268 := Tryd.func77.trans (congrArg some (by kernel_rfl))
  f314 := Tryd.func106.trans (congrArg some (by kernel_rfl))
  t0 := Tryd.underlying0
  a0 := Tryd.isAgg0
  z0 := Tryd.sizeOf0
  v0 := Tryd.zeroValue0
  t3 := Tryd.underlying3
  a3 := Tryd.isAgg3
  z3 := Tryd.sizeOf3
  v3 := Tryd.zeroValue3
  t4 := Tryd.underlying4
  a4 := Tryd.isAgg4
  z4 := Tryd.sizeOf4
  v4 := Tryd.zeroValue4
  t5 := Tryd.underlying5
  a5 := Tryd.isAgg5
  z5 := Tryd.sizeOf5
  v5 := Tryd.zeroValue5
  t9 := Tryd.underlying9
  a9 := Tryd.isAgg9
  z9 := Tryd.sizeOf9
  v9 := Tryd.zeroValue9
  t21 := Tryd.underlying21
  a21 := Tryd.isAgg21
  z21 := Tryd.sizeOf21
  v21 := Tryd.zeroValue21
  t31 := Tryd.underlying75
  a31 := Tryd.isAgg75
  z31 := Tryd.sizeOf75
  v31 := Tryd.zeroValue75
  t46 := Tryd.underlying109
  a46 := Tryd.isAgg109
  z46 := Tryd.sizeOf109
  v46 := Tryd.zeroValue109
  t51 := Tryd.underlying118
  a51 := Tryd.isAgg118
  z51 := Tryd.sizeOf118
  v51 := Tryd.zeroValue118
  t105 := Tryd.underlying111
  a105 := Tryd.isAgg111
  z105 := Tryd.sizeOf111
  v105 := Tryd.zeroValue111
  t119 := Tryd.underlying122
  a119 := Tryd.isAgg122
  z119 := Tryd.sizeOf122
  t138 := Tryd.underlying124
  a138 := Tryd.isAgg124
  z138 := Tryd.sizeOf124
  v138 := Tryd.zeroValue124
  t139 := Tryd.underlying125
  a139 := Tryd.isAgg125
  z139 := Tryd.sizeOf125
  v139 := Tryd.zeroValue125
  t146 := Tryd.underlying126
  a146 := Tryd.isAgg126
  z146 := Tryd.sizeOf126
  v146 := Tryd.zeroValue126
  g1 := by kernel_rfl
  g3 := by kernel_rfl
  g4 := by kernel_rfl }
open Go.RowKit Go.Lib in
/-- strings.Split. (LAID: no walk: one application.) -/
theorem Tryd.strings_Split (s sep : ByteArray) (m : Int) (w : World) (hs : s.size < 4294967281) (hm : w.cell? ⟨1, 0, none⟩ = some (.int .i64 m)) (h1 : 1 ≤ sep.size) :
    Calls Tryd.prog 53 #[.string s, .string sep] w fun e w' =>
      e = .returned (.slice (some ⟨w.heap.size, 0, none⟩) (Lib.countB s sep + 1) (Lib.countB s sep + 1)) ∧ w' = w.alloc (.cells ((Lib.splitB sep 0 (Lib.countB s sep) s).map Value.string).toArray 9) := Any.strings_Split Tryd.lays146 (by kernel_rfl) s sep m w hs hm h1
def Tryd.laysM146_ren : Go.Shelf.Ren := ⟨fun | 146 => 53 | 221 => 66 | 268 => 77 | 138 => 78 | 143 => 79 | 195 => 87 | 197 => 88 | 218 => 89 | 219 => 90 | 260 => 98 | 217 => 99 | 225 => 100 | 224 => 101 | 267 => 102 | 266 => 105 | 314 => 106 | n => n, fun | 9 => 9 | 31 => 75 | 3 => 3 | 4 => 4 | 0 => 0 | 105 => 111 | 21 => 21 | 5 => 5 | 46 => 109 | 119 => 122 | 139 => 125 | 138 => 124 | 146 => 126 | 51 => 118 | n => n, fun | 1 => 1 | 3 => 2 | 4 => 3 | n => n⟩
theorem Tryd.laysM146 : Go.Proofs.LaysM.n146 Tryd.prog Tryd.laysM146_ren := {
  mixed := by kernel_rfl
  f138 := Tryd.func78.trans (congrArg some (by kernel_rfl))
  f143 := Tryd.func79.trans (congrArg some (by kernel_rfl))
  f146 := Tryd.func53.trans (congrArg some (by kernel_rfl))
  f195 := Tryd.func87.trans (congrArg some (by kernel_rfl))
  f197 := Tryd.func88.trans (congrArg some (by kernel_rfl))
  f217 := Tryd.func99.trans (congrArg some (by kernel_rfl))
  f218 := Tryd.func89.trans (congrArg some (by kernel_rfl))
  f219 := Tryd.func90.trans (congrArg some (by kernel_rfl))
  f221 := Tryd.func66.trans (congrArg some (by kernel_rfl))
  f224 := Tryd.func101.trans (congrArg some (by kernel_rfl))
  f225 := Tryd.func100.trans (congrArg some (by kernel_rfl))
  f260 := Tryd.func98.trans (congrArg some (by kernel_rfl))
  f266 := Tryd.func105.trans (congrArg some (by kernel_rfl))
  f267 := Tryd.func102.trans (congrArg some (by kernel_rfl))
  f268 := Tryd.func77.trans (congrArg some (by kernel_rfl))
  f314 := Tryd.func106.trans (congrArg some (by kernel_rfl))
  t0 := Tryd.underlying0
  a0 := Tryd.isAgg0
  z0 := Tryd.sizeOf0
  v0 := Tryd.zeroValue0
  t3 := Tryd.underlying3
  a3 := Tryd.isAgg3
  z3 := Tryd.sizeOf3
  v3 := Tryd.zeroValue3
  t4 := Tryd.underlying4
  a4 := Tryd.isAgg4
  z4 := Tryd.sizeOf4
  v4 := Tryd.zeroValue4
  t5 := Tryd.underlying5
  a5 := Tryd.isAgg5
  z5 := Tryd.sizeOf5
  v5 := Tryd.zeroValue5
  t9 := Tryd.underlying9
  a9 := Tryd.isAgg9
  z9 := Tryd.sizeOf9
  v9 := Tryd.zeroValue9
  t21 := Tryd.underlying21
  a21 := Tryd.isAgg21
  z21 := Tryd.sizeOf21
  v21 := Tryd.zeroValue21
  t31 := Tryd.underlying75
  a31 := Tryd.isAgg75
  z31 := Tryd.sizeOf75
  v31 := Tryd.zeroValue75
  t46 := Tryd.underlying109
  a46 := Tryd.isAgg109
  z46 := Tryd.sizeOf109
  v46 := Tryd.zeroValue109
  t51 := Tryd.underlying118
  a51 := Tryd.isAgg118
  z51 := Tryd.sizeOf118
  v51 := Tryd.zeroValue118
  t105 := Tryd.underlying111
  a105 := Tryd.isAgg111
  z105 := Tryd.sizeOf111
  v105 := Tryd.zeroValue111
  t119 := Tryd.underlying122
  a119 := Tryd.isAgg122
  z119 := Tryd.sizeOf122
  t138 := Tryd.underlying124
  a138 := Tryd.isAgg124
  z138 := Tryd.sizeOf124
  v138 := Tryd.zeroValue124
  t139 := Tryd.underlying125
  a139 := Tryd.isAgg125
  z139 := Tryd.sizeOf125
  v139 := Tryd.zeroValue125
  t146 := Tryd.underlying126
  a146 := Tryd.isAgg126
  z146 := Tryd.sizeOf126
  v146 := Tryd.zeroValue126
  g1 := by kernel_rfl
  g3 := by kernel_rfl
  g4 := by kernel_rfl
  i0 := by kernel_rfl
  i3 := by kernel_rfl
  i4 := by kernel_rfl
  i5 := by kernel_rfl
  i9 := by kernel_rfl
  i21 := by kernel_rfl
  i31 := by kernel_rfl
  i46 := by kernel_rfl
  i51 := by kernel_rfl
  i105 := by kernel_rfl
  i138 := by kernel_rfl
  i139 := by kernel_rfl
  i146 := by kernel_rfl
  m1 := by kernel_rfl
  s1_3 := fun w h => Go.Proofs.cell_of_shapedOpen_int (zero := #[.int .i64 0]) (t := 3) h (of_decide_eq_true (by kernel_rfl)) (by kernel_rfl) rfl (by kernel_rfl) (by kernel_rfl) Tryd.underlying3
  m3 := by kernel_rfl
  m4 := by kernel_rfl }
open Go.RowKit Go.Lib in
/-- strings.Split, sep not empty. (LAID: no walk: one application.) -/
theorem Tryd.strings_Split_shaped (s sep : ByteArray) (w : World) (h : w.ShapedOpen Tryd.prog) (hs : s.size < 4294967281) (h1 : 1 ≤ sep.size) :
    Calls Tryd.prog 53 #[.string s, .string sep] w fun e w' =>
      e = .returned (.slice (some ⟨w.heap.size, 0, none⟩) (Lib.countB s sep + 1) (Lib.countB s sep + 1)) ∧ w' = w.alloc (.cells ((Lib.splitB sep 0 (Lib.countB s sep) s).map Value.string).toArray 9) := Any.strings_Split_shaped Tryd.laysM146 s sep w h hs h1
def Tryd.lays260_ren : Go.Shelf.Ren := ⟨fun | 260 => 98 | n => n, fun | 9 => 9 | 21 => 21 | 3 => 3 | 4 => 4 | 5 => 5 | 119 => 122 | 0 => 0 | 46 => 109 | 139 => 125 | 138 => 124 | n => n, fun | 3 => 2 | 4 => 3 | n => n⟩
theorem Tryd.lays260 : Go.Proofs.Lays.n260 Tryd.prog Tryd.lays260_ren := {
  mixed := by kernel_rfl
  f260 := Tryd.func98.trans (congrArg some (by kernel_rfl))
  t0 := Tryd.underlying0
  a0 := Tryd.isAgg0
  z0 := Tryd.sizeOf0
  v0 := Tryd.zeroValue0
  t3 := Tryd.underlying3
  a3 := Tryd.isAgg3
  z3 := Tryd.sizeOf3
  v3 := Tryd.zeroValue3
  t4 := Tryd.underlying4
  a4 := Tryd.isAgg4
  z4 := Tryd.sizeOf4
  v4 := Tryd.zeroValue4
  t5 := Tryd.underlying5
  a5 := Tryd.isAgg5
  z5 := Tryd.sizeOf5
  v5 := Tryd.zeroValue5
  t9 := Tryd.underlying9
  a9 := Tryd.isAgg9
  z9 := Tryd.sizeOf9
  v9 := Tryd.zeroValue9
  t21 := Tryd.underlying21
  a21 := Tryd.isAgg21
  z21 := Tryd.sizeOf21
  v21 := Tryd.zeroValue21
  t46 := Tryd.underlying109
  a46 := Tryd.isAgg109
  z46 := Tryd.sizeOf109
  v46 := Tryd.zeroValue109
  t119 := Tryd.underlying122
  a119 := Tryd.isAgg122
  z119 := Tryd.sizeOf122
  t138 := Tryd.underlying124
  a138 := Tryd.isAgg124
  z138 := Tryd.sizeOf124
  v138 := Tryd.zeroValue124
  t139 := Tryd.underlying125
  a139 := Tryd.isAgg125
  z139 := Tryd.sizeOf125
  v139 := Tryd.zeroValue125
  g3 := by kernel_rfl
  g4 := by kernel_rfl }
open Go.RowKit Go.Lib in
theorem Tryd.utf8_decodeRuneInStringSlow (s : ByteArray) (w : World) (hT : Lib.Utf8Tabs 2 3 w) :
    Calls Tryd.prog 98 #[.string s] w fun e w' => e = .returned (.tuple #[.int .i32 (Lib.decodeGo s).1, .int .i64 (Lib.decodeGo s).2]) ∧ Below w.heap.size w w' := Any.utf8_decodeRuneInStringSlow Tryd.lays260 s w hT
end Go.Proofs
/- The order of nogoods: certificate.compare, slices.CompareFunc over facts, the closure of certificate.Sort. -/
namespace Go.Proofs.YticdfbhbbapbdaaDoor
open Go.RowKit

def cmpI (x y : Int) : Int := Lib.compareInt x y
theorem cmpI_lt {x y : Int} : cmpI x y < 0 ↔ x < y := by unfold cmpI Lib.compareInt; repeat' split; all_goals omega
theorem cmpI_zero {x y : Int} : cmpI x y = 0 ↔ x = y := by unfold cmpI Lib.compareInt; repeat' split; all_goals omega
def cmpFact (x y : Fact) : Int := if cmpI x.1 y.1 ≠ 0 then cmpI x.1 y.1 else cmpI x.2 y.2
def cmpL : List Fact → List Fact → Int
  | [], [] => 0
  | [], _ :: _ => -1
  | _ :: _, [] => 1
  | x :: r, y :: s => if cmpFact x y ≠ 0 then cmpFact x y else cmpL r s
def cmpN (x y : Nogood) : Int := if cmpI x.2 y.2 ≠ 0 then cmpI x.2 y.2 else cmpL x.1 y.1

set_option maxHeartbeats 1000000 in
theorem compare_calls (x1 x2 y1 y2 : Int) (w : World) : Calls Tryd.prog 48 #[.agg #[.int .i64 x1, .int .i64 x2], .agg #[.int .i64 y1, .int .i64 y2]] w fun e w' => e = .returned (.int .i64 (cmpFact (x1, x2) (y1, y2))) ∧ Below w.heap.size w w' := by
  have h1 := fun (W : World) => Tryd.cmp_Compare_int x1 y1 W
  have h2 := fun (W : World) => Tryd.cmp_Compare_int x2 y2 W
  have hfin : cmpFact (x1, x2) (y1, y2) = if Lib.compareInt x1 y1 ≠ 0 then Lib.compareInt x1 y1 else Lib.compareInt x2 y2 := rfl
  generalize Lib.compareInt x1 y1 = c1 at h1 hfin
  generalize Lib.compareInt x2 y2 = c2 at h2 hfin
  generalize cmpFact (x1, x2) (y1, y2) = r at hfin ⊢
  have hB : Below w.heap.size w ((w.alloc (.cells #[.int .i64 x1, .int .i64 x2] 54)).alloc (.cells #[.int .i64 y1, .int .i64 y2] 54)) := belowA (belowA (Below.refl _ _) _) _
  by_cases hc : c1 = 0
  · have hb : (c1 != 0) = false := by simp [hc]
    have hr : r = c2 := by rw [hfin, if_neg (by simp [hc])]
    have H1 := Lib.hid h1
    have H2 := Lib.hid h2
    have HFIN := Lib.hid hfin
    have HR := Lib.hid hr
    have HC := Lib.hid hc
    have HB := Lib.hid hB
    clear h1 h2 hfin hr hc hB
    go_enter Tryd.func48, Tryd.ntmps48
    go_wp2_with fail
    refine (H1.out _).mono ?_
    rintro e w1 ⟨rfl, rfl⟩
    go_wp2_with fail
    refine (H2.out _).mono ?_
    rintro e w2 ⟨rfl, rfl⟩
    go_wp2_with fail
    go_ret
    exact ⟨by rw [HR.out]; rfl, HB.out⟩
  · have hb : (c1 != 0) = true := by simp [hc]
    have hr : r = c1 := by rw [hfin, if_pos hc]
    have H1 := Lib.hid h1
    have H2 := Lib.hid h2
    have HFIN := Lib.hid hfin
    have HR := Lib.hid hr
    have HB := Lib.hid hB
    clear h1 h2 hfin hr hB
    go_enter Tryd.func48, Tryd.ntmps48
    go_wp2_with fail
    refine (H1.out _).mono ?_
    rintro e w1 ⟨rfl, rfl⟩
    go_wp2_with fail
    go_ret
    exact ⟨by rw [HR.out]; rfl, HB.out⟩

set_option maxHeartbeats 2000000 in
theorem compareFunc_calls (u v : Value) (a b : List Fact) (w : World) (hu : FactsAt w u a) (hv : FactsAt w v b) :
    Calls Tryd.prog 47 #[u, v, .func (.func 48) #[] #[]] w fun e w' => e = .returned (.int .i64 (cmpL a b)) ∧ Below w.heap.size w w' := by
  obtain ⟨A, n, c, rfl, hn, hm⟩ := hu.form
  obtain ⟨A', n', c', rfl, hn', hm'⟩ := hv.form
  obtain ⟨D, hD⟩ : ∃ D, cmpL a b = D := ⟨_, rfl⟩
  rw [hD]
  have HU := Lib.hid hu
  have HV := Lib.hid hv
  have HN := Lib.hid hn
  have HN' := Lib.hid hn'
  have HD := Lib.hid hD
  clear hu hv hn hn' hD
  go_enter Tryd.func47, Tryd.ntmps47
  go_wp2
  go_loopg [13] n (fun g i wr => ∃ k : Nat, k ≤ n ∧ k ≤ n' ∧ g = n - k ∧ i = .int .i64 k ∧ Below w.heap.size w wr ∧ D = cmpL (a.drop k) (b.drop k))
  case atStart => exact ⟨0, Nat.zero_le _, Nat.zero_le _, by omega, rfl, Below.refl _ _, HD.out.symm⟩
  case round =>
    obtain ⟨k, hk, hk', hg, rfl, hB, hF⟩ := hrel
    have HG := Lib.hid hg
    have HF := Lib.hid hF
    clear hg hF
    by_cases hlt : k < n
    · obtain ⟨bb, off, x1, x2, rfl, c0, c1, hx, hd⟩ := (HU.out.keep hB).at hlt
      have hbr : bb < wr.heap.size := lt_of_cell c0
      by_cases hlt' : k < n'
      · obtain ⟨bb', off', y1, y2, rfl, d0, d1, hy, hd'⟩ := (HV.out.keep hB).at hlt'
        have hbr' : bb' < wr.heap.size := lt_of_cell d0
        have hst : D = if cmpFact (x1, x2) (y1, y2) ≠ 0 then cmpFact (x1, x2) (y1, y2) else cmpL (a.drop (k + 1)) (b.drop (k + 1)) := by rw [HF.out, hd, hd', cmpL]
        have h1 := fun (W : World) => compare_calls x1 x2 y1 y2 W
        generalize cmpFact (x1, x2) (y1, y2) = cc at hst h1
        by_cases hcc : cc = 0
        · have hb : (cc != 0) = false := by simp [hcc]
          have hnext : D = cmpL (a.drop (k + 1)) (b.drop (k + 1)) := by rw [hst, if_neg (by simp [hcc])]
          have HX := Lib.hid hx
          have HD2 := Lib.hid hd
          have HY := Lib.hid hy
          have HD3 := Lib.hid hd'
          have HST := Lib.hid hst
          have H1 := Lib.hid h1
          have HCC := Lib.hid hcc
          have HNEXT := Lib.hid hnext
          clear hx hd hy hd' hst h1 hcc hnext
          go_wp2_with (go_at_call 48; refine (H1.out _).mono ?_; rintro e w1 ⟨rfl, hb1⟩)
          go_roundg (n - (k + 1))
          case measure => have := HG.out; omega
          case rel => exact ⟨k + 1, by omega, by omega, rfl, by go_num, belowT (belowA (belowA hB _) _) hb1, HNEXT.out⟩
        · have hb : (cc != 0) = true := by simp [hcc]
          have hfin : D = cc := by rw [hst, if_pos hcc]
          have HX := Lib.hid hx
          have HD2 := Lib.hid hd
          have HY := Lib.hid hy
          have HD3 := Lib.hid hd'
          have HST := Lib.hid hst
          have H1 := Lib.hid h1
          have HFIN := Lib.hid hfin
          clear hx hd hy hd' hst h1 hfin
          go_wp2_with (go_at_call 48; refine (H1.out _).mono ?_; rintro e w1 ⟨rfl, hb1⟩)
          go_ret
          exact ⟨by rw [HFIN.out]; rfl, belowT (belowA (belowA hB _) _) hb1⟩
      · have hfin : D = 1 := by rw [HF.out, hd, show b.drop k = [] from List.drop_eq_nil_of_le (by have := HN'.out; omega), cmpL]
        have HX := Lib.hid hx
        have HD2 := Lib.hid hd
        have HFIN := Lib.hid hfin
        clear hx hd hfin
        go_wp2_with fail
        go_ret
        exact ⟨by rw [HFIN.out]; rfl, belowA hB _⟩
    · have hdn : a.drop k = [] := List.drop_eq_nil_of_le (by have := HN.out; omega)
      by_cases hlt' : n < n'
      · have hfin : D = -1 := by
          obtain ⟨y, _, hd'⟩ := some_at (l := b) (k := k) HN'.out (by omega)
          rw [HF.out, hdn, hd', cmpL]
        have HDN := Lib.hid hdn
        have HFIN := Lib.hid hfin
        clear hdn hfin
        go_wp2_with fail
        go_ret
        exact ⟨by rw [HFIN.out]; rfl, hB⟩
      · have hfin : D = 0 := by rw [HF.out, hdn, show b.drop k = [] from List.drop_eq_nil_of_le (by have := HN'.out; omega), cmpL]
        have HDN := Lib.hid hdn
        have HFIN := Lib.hid hfin
        clear hdn hfin
        go_wp2_with fail
        go_ret
        exact ⟨by rw [HFIN.out]; rfl, hB⟩

set_option maxHeartbeats 1000000 in
theorem sortCmp_calls (u v : Value) (a b : List Fact) (d e : Int) (w : World) (hu : FactsAt w u a) (hv : FactsAt w v b) :
    Calls Tryd.prog 45 #[.agg #[u, .int .i64 d], .agg #[v, .int .i64 e]] w fun r w' => r = .returned (.int .i64 (cmpN (a, d) (b, e))) ∧ Below w.heap.size w w' := by
  obtain ⟨A, n, c, rfl, hn, hm⟩ := hu.form
  obtain ⟨A', n', c', rfl, hn', hm'⟩ := hv.form
  have h1 := fun (W : World) => Tryd.cmp_Compare_int d e W
  have hB : Below w.heap.size w ((w.alloc (.cells #[.slice A n c, .int .i64 d] 45)).alloc (.cells #[.slice A' n' c', .int .i64 e] 45)) := belowA (belowA (Below.refl _ _) _) _
  have h2 := compareFunc_calls _ _ a b _ (hu.keep hB) (hv.keep hB)
  have hfin : cmpN (a, d) (b, e) = if Lib.compareInt d e ≠ 0 then Lib.compareInt d e else cmpL a b := rfl
  generalize Lib.compareInt d e = c1 at h1 hfin
  generalize cmpL a b = c2 at h2 hfin
  generalize cmpN (a, d) (b, e) = r at hfin ⊢
  by_cases hc : c1 = 0
  · have hb : (c1 != 0) = false := by simp [hc]
    have hr : r = c2 := by rw [hfin, if_neg (by simp [hc])]
    have H1 := Lib.hid h1
    have H2 := Lib.hid h2
    have HFIN := Lib.hid hfin
    have HR := Lib.hid hr
    have HC := Lib.hid hc
    have HB := Lib.hid hB
    have HU := Lib.hid hu
    have HV := Lib.hid hv
    have HN := Lib.hid hn
    have HN' := Lib.hid hn'
    clear h1 h2 hfin hr hc hB hu hv hn hn'
    go_enter Tryd.func45, Tryd.ntmps45
    go_wp2_with fail
    refine (H1.out _).mono ?_
    rintro e w1 ⟨rfl, rfl⟩
    go_wp2_with fail
    refine H2.out.mono ?_
    rintro e w2 ⟨rfl, hb2⟩
    go_wp2_with fail
    go_ret
    exact ⟨by rw [HR.out]; rfl, belowT HB.out hb2⟩
  · have hb : (c1 != 0) = true := by simp [hc]
    have hr : r = c1 := by rw [hfin, if_pos hc]
    have H1 := Lib.hid h1
    have H2 := Lib.hid h2
    have HFIN := Lib.hid hfin
    have HR := Lib.hid hr
    have HB := Lib.hid hB
    have HU := Lib.hid hu
    have HV := Lib.hid hv
    have HN := Lib.hid hn
    have HN' := Lib.hid hn'
    clear h1 h2 hfin hr hB hu hv hn hn'
    go_enter Tryd.func45, Tryd.ntmps45
    go_wp2_with fail
    refine (H1.out _).mono ?_
    rintro e w1 ⟨rfl, rfl⟩
    go_wp2_with fail
    go_ret
    exact ⟨by rw [HR.out]; rfl, HB.out⟩
end Go.Proofs.YticdfbhbbapbdaaDoor
/- Reading beside a block that is written: 'hush cb w' is the world with that block emptied. -/
namespace Go.Proofs.YticdfbhbbapbdaaDoor
open Go.RowKit

def hush (cb : Nat) (w : World) : World := w.setRow cb #[]
theorem hush_size (cb : Nat) (w : World) : (hush cb w).heap.size = w.heap.size := by simp [hush, World.setRow]
theorem hush_grown (cb : Nat) (w : World) : w.grownBy (hush cb w) (some cb) := setRow_grown w cb #[]
theorem hush_other {cb k : Nat} (w : World) (h : k ≠ cb) : (hush cb w).heap[k]? = w.heap[k]? := setRow_other w cb k #[] h
theorem hush_cell {cb : Nat} {w : World} {p : Addr} {v : Value} (h : (hush cb w).cell? p = some v) : w.cell? p = some v ∧ p.block ≠ cb := by
  by_cases hb : p.block = cb
  · exfalso
    cases hq : w.heap[cb]? with
    | none =>
      have : ¬ cb < w.heap.size := by
        intro hlt
        rw [Array.getElem?_eq_getElem hlt] at hq
        cases hq
      have h2 := lt_of_cell h
      rw [hush_size, hb] at h2
      exact this h2
    | some o =>
      cases o with
      | cells cs t f =>
        have e := setRow_heap w cb cs #[] t f hq
        unfold World.cell? at h
        rw [hb] at h
        unfold hush at h
        rw [e] at h
        revert h
        cases hsp : p.spot <;> simp
      | _ =>
        have e : (hush cb w).heap[cb]? = w.heap[cb]? := by
          unfold hush World.setRow
          simp only [Array.getElem?_modify, hq]
          simp
        unfold World.cell? at h
        rw [hb, e, hq] at h
        simp at h
  · refine ⟨?_, hb⟩
    unfold World.cell? at h ⊢
    rwa [hush_other w hb] at h
theorem IntsAt.unhush {cb : Nat} {w : World} {v : Value} {l : List Int} (h : IntsAt (hush cb w) v l) : IntsAt w v l := by
  obtain ⟨A, c, hv, hl, h⟩ := h
  refine ⟨A, c, hv, hl, fun k x hx => ?_⟩
  obtain ⟨b, off, hA, h0⟩ := h k x hx
  exact ⟨b, off, hA, (hush_cell h0).1⟩
theorem FactsAt.unhush {cb : Nat} {w : World} {v : Value} {l : List Fact} (h : FactsAt (hush cb w) v l) : FactsAt w v l := by
  obtain ⟨A, c, hv, hl, h⟩ := h
  refine ⟨A, c, hv, hl, fun k x hx => ?_⟩
  obtain ⟨b, off, hA, h0, h1⟩ := h k x hx
  exact ⟨b, off, hA, (hush_cell h0).1, (hush_cell h1).1⟩
theorem hush_below {cb : Nat} {w w' : World} {a a' : Array Value} {t : TypeId} {f : Nat × Nat} (hg : w.grownBy w' (some cb)) (h : w.heap[cb]? = some (.cells a t f)) (h' : w'.heap[cb]? = some (.cells a' t f)) : Below (hush cb w).heap.size (hush cb w) (hush cb w') := by
  refine ⟨hg.os, hg.tape, hg.output, by rw [hush_size, hush_size]; exact hg.size, fun i hi => ?_⟩
  rw [hush_size] at hi
  by_cases hic : i = cb
  · subst hic
    rw [hush, hush, setRow_heap w i a #[] t f h, setRow_heap w' i a' #[] t f h']
  · rw [hush_other _ hic, hush_other _ hic]
    exact hg.block i hi (fun e => hic (by injection e))
theorem grown_of_below {w w' : World} (h : Below w.heap.size w w') (row : Option Nat) : w.grownBy w' row := ⟨h.os, h.tape, h.output, h.size, fun i hi _ => h.block i hi⟩
theorem OwnF.hush {w : World} {base cb : Nat} {v : Value} {l : List Fact} (h : OwnF w base v l) (hc : cb < base) : OwnF (hush cb w) base v l := by
  refine World.ownsRow.kept h (hush_grown cb w) ?_
  cases ho : v.ownBlock with
  | none => exact .inl rfl
  | some k => exact .inr (fun e => by injection e with e; have := (h.lt k ho).1; omega)

/-- a block after a store into one of its cells -/
theorem set_block {w : World} {g i : Nat} {cur : Array Value} {t : TypeId} {f : Nat × Nat} (hg : w.heap[g]? = some (.cells cur t f)) (v : Value) (new : Array Value) (hn : cur.setIfInBounds i v = new) : (w.setCell ⟨g, i, none⟩ v).heap[g]? = some (.cells new t f) := by
  rw [setCell_eq_setRow w g i cur t f v hg, hn]
  exact setRow_heap w g cur new t f hg
theorem set_grown {w : World} {g i : Nat} {cur : Array Value} {t : TypeId} {f : Nat × Nat} (hg : w.heap[g]? = some (.cells cur t f)) (v : Value) : w.grownBy (w.setCell ⟨g, i, none⟩ v) (some g) := by
  rw [setCell_eq_setRow w g i cur t f v hg]
  exact setRow_grown _ _ _
end Go.Proofs.YticdfbhbbapbdaaDoor
/- A row of nogoods of the call's own, and what the stable sort does to it: swapRange, rotate, insertionSort, symMerge, stable. -/
namespace Go.Proofs.YticdfbhbbapbdaaDoor
open Go.RowKit

abbrev Item := (Option Addr × Nat × Nat) × Nogood
abbrev valI (x : Item) : Value := .slice x.1.1 x.1.2.1 x.1.2.2
/-- block g holds the items f 0, .., f (N - 1) -/
def RowI (w : World) (g cap N : Nat) (f : Nat → Item) : Prop :=
  ∃ cur : Array Value, w.heap[g]? = some (.cells cur 45 (0, 0)) ∧ cur.size = cap * 2 ∧ N ≤ cap ∧ ∀ k, k < N → cur[k * 2]? = some (.slice (f k).1.1 (f k).1.2.1 (f k).1.2.2) ∧ cur[k * 2 + 1]? = some (.int .i64 (f k).2.2)
theorem RowI.cell {w : World} {g cap N : Nat} {f : Nat → Item} (h : RowI w g cap N f) {k : Nat} (hk : k < N) : w.cell? ⟨g, k * 2, none⟩ = some (.slice (f k).1.1 (f k).1.2.1 (f k).1.2.2) ∧ w.cell? ⟨g, k * 2 + 1, none⟩ = some (.int .i64 (f k).2.2) := by
  obtain ⟨cur, h1, _, _, h2⟩ := h
  obtain ⟨a, b⟩ := h2 k hk
  exact ⟨by simpa [World.cell?, h1] using a, by simpa [World.cell?, h1] using b⟩
theorem RowI.free {w : World} {g cap N : Nat} {f : Nat → Item} (h : RowI w g cap N f) (j : Nat) : w.frozen? ⟨g, j, none⟩ = false := by
  obtain ⟨cur, h1, _⟩ := h
  simp [World.frozen?, h1]
theorem RowI.lt {w : World} {g cap N : Nat} {f : Nat → Item} (h : RowI w g cap N f) : g < w.heap.size := by
  obtain ⟨cur, h1, _⟩ := h
  exact (Array.getElem?_eq_some_iff.1 h1).1
theorem RowI.keep {w w' : World} {g cap N : Nat} {f : Nat → Item} (h : RowI w g cap N f) (hb : Below w.heap.size w w') : RowI w' g cap N f := by
  have hl := h.lt
  obtain ⟨cur, h1, h2⟩ := h
  exact ⟨cur, (hb.block g hl).trans h1, h2⟩
theorem RowI.grown {w w' : World} {g cap N : Nat} {f f' : Nat → Item} (h : RowI w g cap N f) (h' : RowI w' g cap N f') (hg : w.grownBy w' (some g)) : Below (hush g w).heap.size (hush g w) (hush g w') := by
  obtain ⟨cur, h1, _⟩ := h
  obtain ⟨cur', h1', _⟩ := h'
  exact hush_below hg h1 h1'
theorem grown_drew_r {w x : World} {r : Option Nat} (h : w.grownBy x r) : w.grownBy x.drew r := ⟨h.os, h.tape, h.output, h.size, h.block⟩
/-- the world behind an exchange of two items -/
theorem row_swap {w : World} {g cap N i j : Nat} {f : Nat → Item} (h : RowI w g cap N f) (hi : i < N) (hj : j < N) :
    RowI ((((w.setCell ⟨g, i * 2, none⟩ (.slice (f j).1.1 (f j).1.2.1 (f j).1.2.2)).setCell ⟨g, i * 2 + 1, none⟩ (.int .i64 (f j).2.2)).setCell ⟨g, j * 2, none⟩ (.slice (f i).1.1 (f i).1.2.1 (f i).1.2.2)).setCell ⟨g, j * 2 + 1, none⟩ (.int .i64 (f i).2.2)) g cap N (swp f i j) ∧
    w.grownBy ((((w.setCell ⟨g, i * 2, none⟩ (.slice (f j).1.1 (f j).1.2.1 (f j).1.2.2)).setCell ⟨g, i * 2 + 1, none⟩ (.int .i64 (f j).2.2)).setCell ⟨g, j * 2, none⟩ (.slice (f i).1.1 (f i).1.2.1 (f i).1.2.2)).setCell ⟨g, j * 2 + 1, none⟩ (.int .i64 (f i).2.2)) (some g) := by
  obtain ⟨cur, h1, h2, h3, h4⟩ := h
  have s1 := set_block h1 (.slice (f j).1.1 (f j).1.2.1 (f j).1.2.2) _ rfl (i := i * 2)
  have s2 := set_block s1 (.int .i64 (f j).2.2) _ rfl (i := i * 2 + 1)
  have s3 := set_block s2 (.slice (f i).1.1 (f i).1.2.1 (f i).1.2.2) _ rfl (i := j * 2)
  have s4 := set_block s3 (.int .i64 (f i).2.2) _ rfl (i := j * 2 + 1)
  refine ⟨⟨_, s4, by simpa using h2, h3, fun k hk => ?_⟩, ?_⟩
  · obtain ⟨a, b⟩ := h4 k hk
    unfold swp
    simp only [Array.getElem?_setIfInBounds, Array.size_setIfInBounds]
    constructor
    · by_cases hki : k = i
      · subst hki
        by_cases hkj : k = j
        · subst hkj
          rw [if_neg (by omega), if_pos rfl, if_pos (by omega), if_pos rfl]
        · rw [if_neg (by omega), if_neg (by omega), if_neg (by omega), if_pos rfl, if_pos (by omega), if_pos rfl]
      · by_cases hkj : k = j
        · subst hkj
          rw [if_neg (by omega), if_pos rfl, if_pos (by omega), if_neg hki, if_pos rfl]
        · rw [if_neg (by omega), if_neg (by omega), if_neg (by omega), if_neg (by omega), if_neg hki, if_neg hkj]
          exact a
    · by_cases hki : k = i
      · subst hki
        by_cases hkj : k = j
        · subst hkj
          rw [if_pos rfl, if_pos (by omega), if_pos rfl]
        · rw [if_neg (by omega), if_neg (by omega), if_pos rfl, if_pos (by omega), if_pos rfl]
      · by_cases hkj : k = j
        · subst hkj
          rw [if_pos rfl, if_pos (by omega), if_neg hki, if_pos rfl]
        · rw [if_neg (by omega), if_neg (by omega), if_neg (by omega), if_neg (by omega), if_neg hki, if_neg hkj]
          exact b
  · exact (set_grown h1 _).trans ((set_grown s1 _).trans ((set_grown s2 _).trans (set_grown s3 _)))

set_option maxHeartbeats 2000000 in
set_option maxRecDepth 100000 in
theorem swapRange_calls (g cap N a b n : Nat) (cv : Value) (f : Nat → Item) (w : World) (h : RowI w g cap N f) (hab : a + n ≤ b) (hb : b + n ≤ N) (hN : N ≤ 100000) :
    Calls Tryd.prog 97 #[.slice (some ⟨g, 0, none⟩) N cap, .int .i64 a, .int .i64 b, .int .i64 n, cv] w fun e w' => e = .returned (.tuple #[]) ∧ RowI w' g cap N (swr f a b n) ∧ PermF N f (swr f a b n) ∧ w.grownBy w' (some g) := by
  have HR := Lib.hid h
  clear h
  go_enter Tryd.func97, Tryd.ntmps97
  go_wp2
  go_loopg [10] n (fun gh i wr => ∃ k : Nat, k ≤ n ∧ gh = n - k ∧ i = .int .i64 k ∧ RowI wr g cap N (swr f a b k) ∧ PermF N f (swr f a b k) ∧ w.grownBy wr (some g))
  case atStart => exact ⟨0, Nat.zero_le _, by omega, rfl, by rw [swr_zero]; exact HR.out, by rw [swr_zero]; exact PermF.refl _ _, World.grownBy.refl _ _⟩
  case round =>
    obtain ⟨k, hk, hg, rfl, hr, hp, hgr⟩ := hrel
    by_cases hlt : k < n
    · obtain ⟨c0, c1⟩ := hr.cell (k := a + k) (by omega)
      obtain ⟨d0, d1⟩ := hr.cell (k := b + k) (by omega)
      have fz := hr.free
      have hsw := row_swap hr (i := a + k) (j := b + k) (by omega) (by omega)
      have hpp := hp.trans (swp_perm (swr f a b k) (i := a + k) (j := b + k) (N := N) (by omega) (by omega))
      rw [swr_succ f a b k (by omega)] at hsw hpp
      have e1 : ((a : Int) + k).toNat = a + k := by omega
      have e2 : ((b : Int) + k).toNat = b + k := by omega
      have l1 : (a : Int) + k < N := by omega
      have l2 : (b : Int) + k < N := by omega
      have b1 : 0 ≤ (a : Int) + k := by omega
      have b2 : 0 ≤ (b : Int) + k := by omega
      have w1 : IntKind.i64.wrap ((a : Int) + k) = (a : Int) + k := by rw [IntKind.wrap_i64]; omega
      have w2 : IntKind.i64.wrap ((b : Int) + k) = (b : Int) + k := by rw [IntKind.wrap_i64]; omega
      have HG := Lib.hid hg
      have HRR := Lib.hid hr
      have HP := Lib.hid hp
      have HGR := Lib.hid hgr
      have HSW := Lib.hid hsw
      have HPP := Lib.hid hpp
      clear hg hr hp hgr hsw hpp
      go_upto_region 3 with fail
      go_region
      go_wp2
      go_roundg (n - (k + 1))
      case measure => have := HG.out; omega
      case rel => exact ⟨k + 1, by omega, rfl, by go_num, HSW.out.1, HPP.out, grown_drew_r (World.grownBy.trans HGR.out HSW.out.2)⟩
    · have hke : k = n := by omega
      subst hke
      have HG := Lib.hid hg
      have HRR := Lib.hid hr
      have HP := Lib.hid hp
      have HGR := Lib.hid hgr
      clear hg hr hp hgr
      go_wp2
      go_end0
      exact ⟨rfl, HRR.out, HP.out, HGR.out⟩

set_option maxHeartbeats 2000000 in
set_option maxRecDepth 100000 in
theorem rotate_calls (g cap N a m b : Nat) (cv : Value) (f : Nat → Item) (w : World) (h : RowI w g cap N f) (ham : a < m) (hmb : m < b) (hb : b ≤ N) (hN : N ≤ 100000) :
    Calls Tryd.prog 86 #[.slice (some ⟨g, 0, none⟩) N cap, .int .i64 a, .int .i64 m, .int .i64 b, cv] w fun e w' => e = .returned (.tuple #[]) ∧ RowI w' g cap N (rot f a m b) ∧ PermF N f (rot f a m b) ∧ w.grownBy w' (some g) := by
  have hia : (m : Int) - a = ((m - a : Nat) : Int) := by omega
  have hjb : (b : Int) - m = ((b - m : Nat) : Int) := by omega
  have HR := Lib.hid h
  have HIA := Lib.hid hia
  have HJB := Lib.hid hjb
  clear h hia hjb
  go_enter Tryd.func86, Tryd.ntmps86
  go_wp2
  go_loopg [10, 11] (b - a) (fun gh iv jv wr => ∃ (i j : Nat) (f' : Nat → Item), 0 < i ∧ 0 < j ∧ a + i ≤ m ∧ m + j ≤ b ∧ gh = i + j ∧ iv = .int .i64 i ∧ jv = .int .i64 j ∧ RowI wr g cap N f' ∧ PermF N f f' ∧ w.grownBy wr (some g) ∧ rot f a m b = rot f' (m - i) m (m + j) ∧ a ≤ m - i)
  case atStart => exact ⟨m - a, b - m, f, by omega, by omega, by omega, by omega, by omega, by rw [HIA.out], by rw [HJB.out], HR.out, PermF.refl _ _, World.grownBy.refl _ _, by rw [show m - (m - a) = a by omega, show m + (b - m) = b by omega], by omega⟩
  case round =>
    obtain ⟨i, j, f', hi, hj, him, hjm, hg, rfl, rfl, hr, hp, hgr, hrot, hami⟩ := hrel
    have e1 : (m : Int) - i = ((m - i : Nat) : Int) := by omega
    rcases Nat.lt_trichotomy i j with hij | hij | hij
    · have hne : ((i : Int) != (j : Int)) = true := by simp; omega
      have e2 : (m : Int) + j - i = ((m + j - i : Nat) : Int) := by omega
      have e3 : (j : Int) - i = ((j - i : Nat) : Int) := by omega
      have hs := swapRange_calls g cap N (m - i) (m + j - i) i cv f' wr hr (by omega) (by omega) hN
      have hl := rot_lt f' (m - i) m (m + j) (by omega) (by omega) (by omega)
      rw [show m - (m - i) = i by omega] at hl
      rw [hl] at hrot
      have HG := Lib.hid hg
      have HRR := Lib.hid hr
      have HP := Lib.hid hp
      have HGR := Lib.hid hgr
      have HROT := Lib.hid hrot
      have E1 := Lib.hid e1
      have E2 := Lib.hid e2
      have E3 := Lib.hid e3
      have HS := Lib.hid hs
      have HL := Lib.hid hl
      clear hg hr hp hgr hrot e1 e2 e3 hs hl
      go_wp2_with (go_at_call 97; rw [E1.out, E2.out]; refine HS.out.mono ?_; rintro e w1 ⟨rfl, hr1, hp1, hg1⟩)
      go_roundg j
      case measure => have := HG.out; omega
      case rel => exact ⟨i, j - i, _, by omega, by omega, by omega, by omega, by omega, rfl, by rw [← E3.out], hr1, PermF.trans HP.out hp1, World.grownBy.trans HGR.out hg1, by rw [HROT.out, show m + (j - i) = m + j - i by omega], by omega⟩
    · subst hij
      have hne : ((i : Int) != (i : Int)) = false := by simp
      have hs := swapRange_calls g cap N (m - i) m i cv f' wr hr (by omega) (by omega) hN
      have hl := rot_eq f' (m - i) m (m + i) (by omega) (by omega) (by omega)
      rw [show m - (m - i) = i by omega] at hl
      rw [hl] at hrot
      have HG := Lib.hid hg
      have HRR := Lib.hid hr
      have HP := Lib.hid hp
      have HGR := Lib.hid hgr
      have HROT := Lib.hid hrot
      have E1 := Lib.hid e1
      have HS := Lib.hid hs
      have HL := Lib.hid hl
      clear hg hr hp hgr hrot e1 hs hl
      go_wp2_with (go_at_call 97; rw [E1.out]; refine HS.out.mono ?_; rintro e w1 ⟨rfl, hr1, hp1, hg1⟩)
      go_end0
      rw [HROT.out]
      exact ⟨rfl, hr1, PermF.trans HP.out hp1, World.grownBy.trans HGR.out hg1⟩
    · have hne : ((i : Int) != (j : Int)) = true := by simp; omega
      have e3 : (i : Int) - j = ((i - j : Nat) : Int) := by omega
      have hs := swapRange_calls g cap N (m - i) m j cv f' wr hr (by omega) (by omega) hN
      have hl := rot_gt f' (m - i) m (m + j) (by omega) (by omega) (by omega)
      rw [show m + j - m = j by omega] at hl
      rw [hl] at hrot
      have HG := Lib.hid hg
      have HRR := Lib.hid hr
      have HP := Lib.hid hp
      have HGR := Lib.hid hgr
      have HROT := Lib.hid hrot
      have E1 := Lib.hid e1
      have E3 := Lib.hid e3
      have HS := Lib.hid hs
      have HL := Lib.hid hl
      clear hg hr hp hgr hrot e1 e3 hs hl
      go_wp2_with (go_at_call 97; rw [E1.out]; refine HS.out.mono ?_; rintro e w1 ⟨rfl, hr1, hp1, hg1⟩)
      go_roundg i
      case measure => have := HG.out; omega
      case rel => exact ⟨i - j, j, _, by omega, by omega, by omega, by omega, by omega, by rw [← E3.out], rfl, hr1, PermF.trans HP.out hp1, World.grownBy.trans HGR.out hg1, by rw [HROT.out, show m - (i - j) = m - i + j by omega], by omega⟩
end Go.Proofs.YticdfbhbbapbdaaDoor
/- slices.insertionSortCmpFunc over nogoods. -/
namespace Go.Proofs.YticdfbhbbapbdaaDoor
open Go.RowKit

def ltI (x y : Item) : Bool := decide (cmpN x.2 y.2 < 0)
abbrev cmpV : Value := .func (.func 45) #[] #[]
/-- the facts of all items can be read beside the row -/
def GoodI (w : World) (g N : Nat) (f : Nat → Item) : Prop := ∀ k, k < N → FactsAt (hush g w) (.slice (f k).1.1 (f k).1.2.1 (f k).1.2.2) (f k).2.1
theorem GoodI.keep {w w' : World} {g cap N a b : Nat} {f f' : Nat → Item} (h : GoodI w g N f) (hr : RowI w g cap N f) (hr' : RowI w' g cap N f') (hg : w.grownBy w' (some g)) (hw : Within a b f f') (hb : b ≤ N) : GoodI w' g N f' := by
  have hB := hr.grown hr' hg
  intro k hk
  by_cases hin : a ≤ k ∧ k < b
  · obtain ⟨k', h1, h2, e⟩ := hw.2 k hin.1 hin.2
    rw [e]
    exact (h k' (by omega)).keep hB
  · rw [hw.1 k hin]
    exact (h k hk).keep hB
theorem GoodI.cmp {w : World} {g N i j : Nat} {f : Nat → Item} (h : GoodI w g N f) (hi : i < N) (hj : j < N) (W : World) (hb : Below w.heap.size w W) :
    Calls Tryd.prog 45 #[.agg #[.slice (f i).1.1 (f i).1.2.1 (f i).1.2.2, .int .i64 (f i).2.2], .agg #[.slice (f j).1.1 (f j).1.2.1 (f j).1.2.2, .int .i64 (f j).2.2]] W fun r w' => r = .returned (.int .i64 (cmpN (f i).2 (f j).2)) ∧ Below W.heap.size W w' :=
  sortCmp_calls _ _ (f i).2.1 (f j).2.1 (f i).2.2 (f j).2.2 W ((h i hi).unhush.keep hb) ((h j hj).unhush.keep hb)

/-- what became of the row between two worlds -/
def Sorted (w w' : World) (g cap N a b : Nat) (f : Nat → Item) : Prop :=
  ∃ f', RowI w' g cap N f' ∧ PermF N f f' ∧ Within a b f f' ∧ SortedOn ltI f' a b ∧ w.grownBy w' (some g)

set_option maxHeartbeats 4000000 in
set_option maxRecDepth 100000 in
theorem insertion_calls (o : Ord ltI) (g cap N a b : Nat) (f : Nat → Item) (w : World) (h : RowI w g cap N f) (hgd : GoodI w g N f) (hab : a ≤ b) (hb : b ≤ N) (hN : N ≤ 100000) :
    Calls Tryd.prog 75 #[.slice (some ⟨g, 0, none⟩) N cap, .int .i64 a, .int .i64 b, cmpV] w fun e w' => e = .returned (.tuple #[]) ∧ Sorted w w' g cap N a b f := by
  have HR := Lib.hid h
  have HGD := Lib.hid hgd
  have HO := Lib.hid o
  clear h hgd o
  unfold cmpV
  go_enter Tryd.func75, Tryd.ntmps75
  go_wp2
  go_loopg [8] (b - (a + 1)) (fun gh iv wr => ∃ (i : Nat) (f' : Nat → Item), a < i ∧ (i ≤ b ∨ i = a + 1) ∧ gh = b - i ∧ iv = .int .i64 i ∧ RowI wr g cap N f' ∧ PermF N f f' ∧ Within a b f f' ∧ w.grownBy wr (some g) ∧ SortedOn ltI f' a i)
  case atStart => exact ⟨a + 1, f, by omega, by omega, by omega, by go_num, HR.out, PermF.refl _ _, Within.refl _ _ _, World.grownBy.refl _ _, SortedOn.small (by omega)⟩
  case round =>
    obtain ⟨i, f', hai, hib, hg, rfl, hr, hp, hwi, hgr, hso⟩ := hrel
    by_cases hlt : i < b
    · have hstart := almost_start hso
      have HG := Lib.hid hg
      have HRR := Lib.hid hr
      have HP := Lib.hid hp
      have HWI := Lib.hid hwi
      have HGR := Lib.hid hgr
      have HSO := Lib.hid hso
      have HST := Lib.hid hstart
      clear hg hr hp hwi hgr hso hstart
      go_wp2
      go_loopg [9] (i - a) (fun gh jv wr => ∃ (j : Nat) (f' : Nat → Item), a ≤ j ∧ j ≤ i ∧ gh = j - a ∧ jv = .int .i64 j ∧ RowI wr g cap N f' ∧ PermF N f f' ∧ Within a b f f' ∧ w.grownBy wr (some g) ∧ Almost ltI f' a (i + 1) j)
      case atStart => exact ⟨i, f', by omega, Nat.le_refl _, rfl, rfl, HRR.out, HP.out, HWI.out, HGR.out, HST.out⟩
      case round =>
        obtain ⟨j, f2, haj, hji, hgj, rfl, hr2, hp2, hwi2, hgr2, hal⟩ := hrel
        clear HRR HP HWI HGR HSO HST
        have hgd2 := HGD.out.keep HR.out hr2 hgr2 hwi2 hb
        by_cases haj' : a < j
        · obtain ⟨c0, c1⟩ := hr2.cell (k := j) (by omega)
          obtain ⟨d0, d1⟩ := hr2.cell (k := j - 1) (by omega)
          have fz := hr2.free
          have hcm := hgd2.cmp (i := j) (j := j - 1) (by omega) (by omega) wr.drew (Below.refl _ _).drew
          have e1 : ((j : Int) - 1).toNat = j - 1 := by omega
          have e2 : (j : Int) - 1 = ((j - 1 : Nat) : Int) := by omega
          have w1 : IntKind.i64.wrap ((j : Int) - 1) = (j : Int) - 1 := by rw [IntKind.wrap_i64]; omega
          have b1 : 0 ≤ (j : Int) - 1 := by omega
          have b2 : 1 ≤ (j : Int) := by omega
          have l1 : (j : Int) - 1 < N := by omega
          have hjN : j < N := by omega
          have dd : decide ((a : Int) < j) = true := by simp; omega
          have dd2 : decide (a < j) = true := by simpa using haj'
          have hlt2 : ltI (f2 j) (f2 (j - 1)) = decide (cmpN (f2 j).2 (f2 (j - 1)).2 < 0) := rfl
          generalize cmpN (f2 j).2 (f2 (j - 1)).2 = cc at hcm hlt2
          have HGJ := Lib.hid hgj
          have HR2 := Lib.hid hr2
          have HP2 := Lib.hid hp2
          have HWI2 := Lib.hid hwi2
          have HGR2 := Lib.hid hgr2
          have HAL := Lib.hid hal
          have HGD2 := Lib.hid hgd2
          have HCM := Lib.hid hcm
          have HLT2 := Lib.hid hlt2
          have E2 := Lib.hid e2
          clear hgj hr2 hp2 hwi2 hgr2 hal hgd2 hcm hlt2 e2
          go_upto_region 4 with fail
          go_cut [34] (fun s wx => s = .bool (decide (cc < 0)) ∧ Below wr.heap.size wr wx)
          case first =>
            go_region_held3 (fun w' => w'.cell? ⟨g, j * 2, none⟩ = some (.slice (f2 j).1.1 (f2 j).1.2.1 (f2 j).1.2.2) ∧ w'.cell? ⟨g, j * 2 + 1, none⟩ = some (.int .i64 (f2 j).2.2) ∧ w'.cell? ⟨g, (j - 1) * 2, none⟩ = some (.slice (f2 (j - 1)).1.1 (f2 (j - 1)).1.2.1 (f2 (j - 1)).1.2.2) ∧ w'.cell? ⟨g, (j - 1) * 2 + 1, none⟩ = some (.int .i64 (f2 (j - 1)).2.2))
              (first | exact ⟨r0, r1, r2, r3⟩ | exact ⟨c0, c1, d0, d1⟩)
              (first
                | (go_at_call 45; refine HCM.out.mono ?_; rintro e w1 ⟨rfl, hb1⟩; have r0 := kept hb1 c0; have r1 := kept hb1 c1; have r2 := kept hb1 d0; have r3 := kept hb1 d1; have HB1 : Hid (Below wr.heap.size wr w1) := belowT ((Below.refl _ _).drew) hb1; clear hb1)
                | fail)
            all_goals (go_wp2_with fail; go_meet; exact ⟨rfl, HB1.out⟩)
          case rest =>
            obtain ⟨rfl, hB1⟩ := hcut
            have hr3 := HR2.out.keep hB1
            have hgr3 : w.grownBy wc (some g) := World.grownBy.trans HGR2.out (grown_of_below hB1 _)
            by_cases hcc : cc < 0
            · have hl : ltI (f2 j) (f2 (j - 1)) = true := by rw [HLT2.out]; simpa using hcc
              have hal' := almost_step HAL.out haj' (by omega) HO.out hl
              obtain ⟨c0, c1⟩ := hr3.cell (k := j) (by omega)
              obtain ⟨d0, d1⟩ := hr3.cell (k := j - 1) (by omega)
              have fz := hr3.free
              have hsw := row_swap hr3 (i := j) (j := j - 1) (by omega) (by omega)
              have hpp := PermF.trans HP2.out (swp_perm f2 (i := j) (j := j - 1) (N := N) (by omega) (by omega))
              have hww := Within.trans HWI2.out (swp_within f2 a b j (j - 1) (by omega) (by omega))
              have HR3 := Lib.hid hr3
              have HGR3 := Lib.hid hgr3
              have HL := Lib.hid hl
              have HAL' := Lib.hid hal'
              have HSW := Lib.hid hsw
              have HPP := Lib.hid hpp
              have HWW := Lib.hid hww
              clear hr3 hgr3 hl hal' hsw hpp hww
              clear hB1
              go_upto_region 6 with fail
              go_region
              go_wp2
              go_roundg (j - 1 - a)
              case measure => have := HGJ.out; omega
              case rel => exact ⟨j - 1, _, by omega, by omega, by omega, by rw [← E2.out], HSW.out.1, HPP.out, HWW.out, grown_drew_r (World.grownBy.trans HGR3.out HSW.out.2), HAL'.out⟩
            · have hl : ltI (f2 j) (f2 (j - 1)) = false := by rw [HLT2.out]; simpa using hcc
              have hdone := almost_done HAL.out haj HO.out (fun _ => hl)
              have HR3 := Lib.hid hr3
              have HGR3 := Lib.hid hgr3
              have HL := Lib.hid hl
              have HDONE := Lib.hid hdone
              clear hr3 hgr3 hl hdone
              clear hB1
              go_wp2_with fail
              go_roundg (b - (i + 1))
              case measure => have := HG.out; omega
              case rel => exact ⟨i + 1, f2, by omega, by omega, rfl, by go_num, HR3.out, HP2.out, HWI2.out, HGR3.out, HDONE.out⟩
        · have hdone := almost_done hal haj HO.out (fun h => absurd h haj')
          have dd : decide ((a : Int) < j) = false := by simp; omega
          have dd2 : decide (a < j) = false := by simpa using haj'
          have HGJ := Lib.hid hgj
          have HR2 := Lib.hid hr2
          have HP2 := Lib.hid hp2
          have HWI2 := Lib.hid hwi2
          have HGR2 := Lib.hid hgr2
          have HAL := Lib.hid hal
          have HGD2 := Lib.hid hgd2
          have HDONE := Lib.hid hdone
          clear hgj hr2 hp2 hwi2 hgr2 hal hgd2 hdone
          go_upto_region 4 with fail
          go_cut [34] (fun s wx => s = .bool false ∧ ∃ q, wx = wr.drewN q)
          case first =>
            refine wp_region_quiet_lit (by kernel_rfl) (by kernel_rfl) ?_
            repeat (any_goals (first | go_big_quiet_step (fail) | quiet_step (fail) | (refine wpQuiet_step (fun K hK => ?_); go_simp; split <;> (refine hK _ ?_; clear hK K))))
            all_goals (refine wpQuiet_nil ?_; intro _ hw'; obtain ⟨nq, hw''⟩ := hw'; subst hw'')
            all_goals (go_wp2_with fail; go_meet; exact ⟨rfl, _, rfl⟩)
          case rest =>
            obtain ⟨rfl, q, rfl⟩ := hcut
            go_wp2_with fail
            go_roundg (b - (i + 1))
            case measure => have := HG.out; omega
            case rel => exact ⟨i + 1, f2, by omega, by omega, rfl, by go_num, HR2.out, HP2.out, HWI2.out, World.grownBy.trans HGR2.out (grown_of_below (below_drewN (Below.refl _ _) _) _), HDONE.out⟩
    · have hsb : SortedOn ltI f' a b := hso.sub (Nat.le_refl _) (by omega)
      have HG := Lib.hid hg
      have HRR := Lib.hid hr
      have HP := Lib.hid hp
      have HWI := Lib.hid hwi
      have HGR := Lib.hid hgr
      have HSO := Lib.hid hso
      have HSB := Lib.hid hsb
      clear hg hr hp hwi hgr hso hsb
      go_wp2
      go_end0
      exact ⟨rfl, f', HRR.out, HP.out, HWI.out, HSB.out, HGR.out⟩
end Go.Proofs.YticdfbhbbapbdaaDoor
