/- Texts of the proof, part 2 of 5. -/
import Derived.Test.YtflgpccacloadaaDoorB1
import Derived.Deep.LoopGhost
import Derived.Deep.Slices
import Derived.Deep.Fields
import Derived.ChangeSame
import Derived.SizedLaws
import Derived.Lib.SmallJoins
import Derived.Test.YtflgpccacloadaaDoorRows
import Derived.Below
import Derived.OpenShut
import Derived.Carry
import Derived.Test.YtflgpccacloadaaDoorChecked
import Derived.WalkKit
import Derived.Laws.StructEq
import Derived.Laws.IdiomStrings
import Derived.Lib.Strings
import Derived.Laws.Cover3
import Derived.Lib.SplitLaws
import Derived.Lib.IndexMore
import Derived.Lib.Bytealg
set_option linter.unusedVariables false
set_option linter.unusedSectionVars false
set_option linter.unusedSimpArgs false
/- An abstract machine (3): what a state may be weakened to, code, loops, functions. -/
namespace Go.Proofs.YtflgpccacloadaaDoor.Am
open Go.RowKit

def mwk (η η' : Nat → Ent) (m : MM) : MM := ⟨fun i => match (η i).blk, (η' i).blk with | some _, some _ => m i | _, _ => none, m.O⟩
def WV (N : Nat) (η η' : Nat → Ent) (x x' : AV) : Prop := ∀ w m v, Mem N w η m → RV w (shp η) m x v → RV w (shp η') (mwk η η' m) x' v

section
variable {N : Nat} {η η' : Nat → Ent}
theorem mwk_some {m : MM} {i b : Nat} (h : mwk η η' m i = some b) : (η i).blk ≠ none ∧ (η' i).blk ≠ none ∧ m i = some b := by
  have h' : (match (η i).blk, (η' i).blk with | some _, some _ => m i | _, _ => none) = some b := h
  split at h'
  · rename_i h1 h2
    exact ⟨by rw [h1]; simp, by rw [h2]; simp, h'⟩
  · cases h'
theorem mwk_kept {m : MM} {i : Nat} {e e' : Ent} {B B' : Blk} (h1 : η i = e) (h2 : η' i = e') (hB : e.blk = some B) (hB' : e'.blk = some B') : mwk η η' m i = m i := by
  show (match (η i).blk, (η' i).blk with | some _, some _ => m i | _, _ => none) = m i
  rw [h1, h2, hB, hB']
theorem mwk_none {m : MM} {i : Nat} (h : (η i).blk = none) : mwk η η' m i = none := by
  show (match (η i).blk, (η' i).blk with | some _, some _ => m i | _, _ => none) = none
  rw [h]
theorem owned_wk {m : MM} {b : Nat} (h : Owned (shp η') (mwk η η' m) b) : Owned (shp η) m b := by
  rcases h with h | ⟨i, _, h2⟩
  · exact .inl h
  · obtain ⟨h3, _, h5⟩ := mwk_some h2
    exact .inr ⟨i, blk_live.2 h3, h5⟩
theorem rv_fr {w : World} {vs vs' : Shp} {m m' : MM} {x : AV} (hx : Fr x) (ho : ∀ b, Owned vs' m' b → Owned vs m b) : ∀ {v : Value}, RV w vs m x v → RV w vs' m' x v := by
  induction hx with
  | c u => intro v h; rw [rv_c h]; exact .c u
  | sl hl ih =>
    intro v h
    obtain ⟨A, cap, b, off, f, rfl, hA, hc, hm, hlen, hcell, hr, hfr⟩ := rv_sl h
    refine .sl (b := b) (off := off) (f := f) (fun hne => ?_) hc hm hlen hcell (fun k j e y h1 h2 => ih e (List.mem_of_getElem? h1) y (List.mem_of_getElem? h2) (hr k j e y h1 h2)) hfr
    obtain ⟨a1, a2, a3⟩ := hA hne
    exact ⟨a1, fun h => a2 (ho _ h), a3⟩
  | pim hl ih =>
    intro v h
    obtain ⟨b, off, f, rfl, hno, hlt, hcell, hr⟩ := rv_pim h
    exact .pim (fun h => hno (ho _ h)) hlt hcell (fun j y h1 => ih y (List.mem_of_getElem? h1) (hr j y h1))
  | agg hl ih =>
    intro v h
    obtain ⟨us, rfl, hlen, hr⟩ := rv_agg h
    exact .agg hlen (fun j y u h1 h2 => ih y (List.mem_of_getElem? h1) (hr j y u h1 h2))
  | tup hl ih =>
    intro v h
    obtain ⟨us, rfl, hlen, hr⟩ := rv_tup h
    exact .tup hlen (fun j y u h1 h2 => ih y (List.mem_of_getElem? h1) (hr j y u h1 h2))
  | clo h1 h2 i1 i2 =>
    intro v h
    cases h with
    | clo a1 a2 a3 a4 => exact .clo a1 (fun j y u q1 q2 => i1 y (List.mem_of_getElem? q1) (a2 j y u q1 q2)) a3 (fun j y u q1 q2 => i2 y (List.mem_of_getElem? q1) (a4 j y u q1 q2))
  | ifc h1 ih =>
    intro v h
    cases h with
    | ifc a1 => exact .ifc (ih a1)
  | mpi hl ih =>
    intro v h
    cases h with
    | mpi h1 h2 h3 h4 h5 h6 h7 => exact .mpi (fun h => h1 (ho _ h)) h2 h3 h4 (fun k e z x q1 q2 q3 => ih e (List.mem_of_getElem? q1) x (List.mem_of_getElem? q3) (h5 k e z x q1 q2 q3)) (fun k e z x q1 q2 q3 => ih e (List.mem_of_getElem? q1) x (List.mem_of_getElem? q3) (h6 k e z x q1 q2 q3)) h7
theorem wv_dead (x : AV) : WV N η η' x .dead := fun _ _ v _ _ => .dead v
theorem wv_fr {x : AV} (h : Fr x) : WV N η η' x x := fun _ _ _ _ hv => rv_fr h (fun _ => owned_wk) hv
theorem wv_sl {sz : Nat} {l : List (List AV)} : WV N η η' (.sl sz l) (.sl sz l) := fun _ _ _ _ hv => by
  have := hv
  obtain ⟨_, _, _, _, _, _, _, _, _, _, _, _, hfr⟩ := rv_sl this
  exact rv_fr (.sl hfr) (fun _ => owned_wk) hv
theorem wv_own {i ver ver' k len : Nat} {B B' : Blk} (h1 : η i = ⟨ver, some B⟩) (h2 : η' i = ⟨ver', some B'⟩) (hs : B.sz = B'.sz) : WV N η η' (.own i ver k len) (.own i ver' k len) := by
  intro w m v hm hv
  have hs' : (shp η') i = (ver', some B.sz) := by simp [shp, h2, hs]
  have hk := mwk_kept (m := m) h1 h2 rfl rfl
  rcases rv_own hv h1 with ⟨rfl, rfl, e, rfl⟩ | ⟨k', A, rfl, rfl, rfl⟩ | ⟨b, cap, ty, nn, e1, e2, e3, e4, e5, rfl⟩
  · exact .ownN hs' (by rw [hk, e])
  · exact .ownZ hs'
  · exact .own hs' (by rw [hk, e1]) e2 e3 e4 e5
theorem wv_ptr {i ver ver' k j : Nat} {B B' : Blk} (h1 : η i = ⟨ver, some B⟩) (h2 : η' i = ⟨ver', some B'⟩) (hs : B.sz = B'.sz) : WV N η η' (.ptr i ver k j) (.ptr i ver' k j) := by
  intro w m v hm hv
  obtain ⟨b, e1, rfl⟩ := rv_ptr hv h1
  exact .ptr (by simp [shp, h2, hs]) (by rw [mwk_kept (m := m) h1 h2 rfl rfl, e1])
theorem wv_ptrO {i ver ver' k j : Nat} {B B' : Blk} (h1 : η i = ⟨ver, some B⟩) (h2 : η' i = ⟨ver', some B'⟩) (hs : B.sz = B'.sz) : WV N η η' (.ptrO i ver k j) (.ptrO i ver' k j) := by
  intro w m v hm hv
  rcases rv_ptrO hv h1 with rfl | ⟨b, e1, rfl⟩
  · exact .ptrON (sz := B'.sz) (by simp [shp, h2])
  · exact .ptrO (by simp [shp, h2, hs]) (by rw [mwk_kept (m := m) h1 h2 rfl rfl, e1])
theorem wv_pO {i ver ver' k j : Nat} {B B' : Blk} (h1 : η i = ⟨ver, some B⟩) (h2 : η' i = ⟨ver', some B'⟩) (hs : B.sz = B'.sz) : WV N η η' (.ptr i ver k j) (.ptrO i ver' k j) := by
  intro w m v hm hv
  obtain ⟨b, e1, rfl⟩ := rv_ptr hv h1
  exact .ptrO (by simp [shp, h2, hs]) (by rw [mwk_kept (m := m) h1 h2 rfl rfl, e1])
theorem wv_mp {i ver ver' : Nat} {B B' : Blk} (h1 : η i = ⟨ver, some B⟩) (h2 : η' i = ⟨ver', some B'⟩) : WV N η η' (.mp i ver) (.mp i ver') := by
  intro w m v hm hv
  obtain ⟨b, e1, rfl⟩ := rv_mp hv h1
  exact .mp (sz := B'.sz) (by simp [shp, h2]) (by rw [mwk_kept (m := m) h1 h2 rfl rfl, e1])
theorem wv_nO {i ver' k j : Nat} {B' : Blk} (h2 : η' i = ⟨ver', some B'⟩) : WV N η η' (.c (.pointer none)) (.ptrO i ver' k j) := by
  intro w m v hm hv
  rw [rv_c hv]
  exact .ptrON (sz := B'.sz) (by simp [shp, h2])
theorem wv_thaw {i ver' cc : Nat} {B' : Blk} (h1 : (η i).blk = none) (h2 : η' i = ⟨ver', some B'⟩) (hc : cc = 0) : WV N η η' (.c (.slice none 0 cc)) (.own i ver' 0 0) := by
  intro w m v hm hv
  subst hc
  rw [rv_c hv]
  exact .ownN (sz := B'.sz) (by simp [shp, h2]) (mwk_none h1)
theorem wv_nil {sz cc : Nat} : WV N η η' (.c (.slice none 0 cc)) (.sl sz []) := by
  intro w m v hm hv
  rw [rv_c hv]
  exact RV.sl (l := []) (b := 0) (off := 0) (f := fun _ _ => undef) (fun h => absurd rfl h) (Nat.zero_le _) (by simp) (fun k e h => by simp at h) (fun k j e x h => by simp at h) (fun k j e x h => by simp at h) (fun e he => by cases he)
theorem wv_agg {cs cs' : List AV} (hl : cs.length = cs'.length) (h : ∀ (j : Nat) (x x' : AV), cs[j]? = some x → cs'[j]? = some x' → WV N η η' x x') : WV N η η' (.agg cs) (.agg cs') := by
  intro w m v hm hv
  obtain ⟨us, rfl, hlen, hr⟩ := rv_agg hv
  refine .agg (by omega) (fun j x' u h1 h2 => ?_)
  have hlt : j < cs.length := by rw [hl]; exact (List.getElem?_eq_some_iff.1 h1).1
  exact h j _ x' (List.getElem?_eq_getElem hlt) h1 w m u hm (hr j _ u (List.getElem?_eq_getElem hlt) h2)
theorem rv_ifc0 {w : World} {vs : Shp} {m : MM} {t : TypeId} {x : AV} {v : Value} (h : RV w vs m (.ifc t x) v) : ∃ u, v = .iface t u ∧ RV w vs m x u := by
  cases h with
  | ifc h => exact ⟨_, rfl, h⟩
theorem wv_ifc {t : TypeId} {x x' : AV} (h : WV N η η' x x') : WV N η η' (.ifc t x) (.ifc t x') := by
  intro w m v hm hv
  obtain ⟨u, rfl, hu⟩ := rv_ifc0 hv
  exact .ifc (h w m u hm hu)
theorem rv_clo {w : World} {vs : Shp} {m : MM} {f : Fn} {cs ds : List AV} {v : Value} (h : RV w vs m (.clo f cs ds) v) : ∃ us us' : Array Value, v = .func f us us' ∧ cs.length = us.size ∧ (∀ (j : Nat) (x : AV) (u : Value), cs[j]? = some x → us[j]? = some u → RV w vs m x u) ∧ ds.length = us'.size ∧ (∀ (j : Nat) (x : AV) (u : Value), ds[j]? = some x → us'[j]? = some u → RV w vs m x u) := by
  cases h with
  | clo h1 h2 h3 h4 => exact ⟨_, _, rfl, h1, h2, h3, h4⟩
theorem wv_clo {f : Fn} {cs cs' ds ds' : List AV} (hl : cs.length = cs'.length) (h : ∀ (j : Nat) (x x' : AV), cs[j]? = some x → cs'[j]? = some x' → WV N η η' x x') (hl2 : ds.length = ds'.length) (h2 : ∀ (j : Nat) (x x' : AV), ds[j]? = some x → ds'[j]? = some x' → WV N η η' x x') : WV N η η' (.clo f cs ds) (.clo f cs' ds') := by
  intro w m v hm hv
  obtain ⟨us, us', rfl, l1, r1, l2, r2⟩ := rv_clo hv
  refine .clo (by omega) (fun j x' u h3 h4 => ?_) (by omega) (fun j x' u h3 h4 => ?_)
  · have hlt : j < cs.length := by rw [hl]; exact (List.getElem?_eq_some_iff.1 h3).1
    exact h j _ x' (List.getElem?_eq_getElem hlt) h3 w m u hm (r1 j _ u (List.getElem?_eq_getElem hlt) h4)
  · have hlt : j < ds.length := by rw [hl2]; exact (List.getElem?_eq_some_iff.1 h3).1
    exact h2 j _ x' (List.getElem?_eq_getElem hlt) h3 w m u hm (r2 j _ u (List.getElem?_eq_getElem hlt) h4)
theorem wv_frz2 {i ver k len : Nat} {B : Blk} {els' : List (List AV)} (h1 : η i = ⟨ver, some B⟩) (h2 : (η' i).blk = none) (hl : els'.length = B.els.length) (hw : ∀ (k : Nat) (e e' : List AV), B.els[k]? = some e → els'[k]? = some e' → e'.length = e.length ∧ ∀ (j : Nat) (x x' : AV), e[j]? = some x → e'[j]? = some x' → WV N η η' x x')
    (hkl : k + len ≤ els'.length) (hfr : FrL els') (hmax : len ≤ 140737488355328) : WV N η η' (.own i ver k len) (.sl B.sz ((els'.drop k).take len)) := by
  intro w m v hm hv
  have hll : ((els'.drop k).take len).length = len := by simp; omega
  have hfr' : FrL ((els'.drop k).take len) := fun e he => hfr e (List.mem_of_mem_drop (List.mem_of_mem_take he))
  have nil : ∀ A, RV w (shp η') (mwk η η' m) (.sl B.sz ([] : List (List AV))) (.slice A 0 0) := fun A =>
    RV.sl (l := []) (b := 0) (off := 0) (f := fun _ _ => undef) (fun h => absurd rfl h) (Nat.le_refl _) (by simp) (fun k e h => by simp at h) (fun k j e x h => by simp at h) (fun k j e x h => by simp at h) (fun e he => by cases he)
  rcases rv_own hv h1 with ⟨rfl, rfl, e, rfl⟩ | ⟨k', A, rfl, rfl, rfl⟩ | ⟨b, cap, ty, nn, e1, e2, e3, e4, e5, rfl⟩
  · simpa using nil none
  · simpa using nil A
  · have hok := hm.ok i B (by rw [h1])
    rw [e1] at hok
    obtain ⟨arr, a1, a2, a3⟩ := hok.unmap e4
    have hlive : (η i).blk ≠ none := by rw [h1]; simp
    have hget : ∀ q e, ((els'.drop k).take len)[q]? = some e → els'[k + q]? = some e := fun q e he => by
      rw [List.getElem?_take] at he
      split at he
      · rw [List.getElem?_drop] at he; exact he
      · cases he
    have hold : ∀ (q : Nat) (e' : List AV), els'[q]? = some e' → ∃ e : List AV, B.els[q]? = some e ∧ e'.length = e.length ∧ ∀ (j : Nat) (x x' : AV), e[j]? = some x → e'[j]? = some x' → WV N η η' x x' := fun q e' he' => by
      have hlt : q < B.els.length := by rw [← hl]; exact (List.getElem?_eq_some_iff.1 he').1
      exact ⟨_, List.getElem?_eq_getElem hlt, hw q _ e' (List.getElem?_eq_getElem hlt) he'⟩
    have hcell : ∀ (q j : Nat) (e' : List AV) (x' : AV), ((els'.drop k).take len)[q]? = some e' → e'[j]? = some x' → ∃ u, arr.getD ((k + q) * B.sz + j) undef = u ∧ arr[(k + q) * B.sz + j]? = some u ∧ u.oneCell' = true ∧ RV w (shp η') (mwk η η' m) x' u := fun q j e' x' he hj => by
      obtain ⟨e, q1, q2, q3⟩ := hold _ e' (hget q e' he)
      have hlt : j < e.length := by rw [← q2]; exact (List.getElem?_eq_some_iff.1 hj).1
      obtain ⟨u, u1, u2, u3⟩ := (a3 _ e q1).2 j _ (List.getElem?_eq_getElem hlt)
      exact ⟨u, by simp [Array.getD_eq_getD_getElem?, u1], u1, u2, q3 j _ x' (List.getElem?_eq_getElem hlt) hj w m u hm u3⟩
    have := RV.sl (w := w) (vs := shp η') (m := mwk η η' m) (sz := B.sz) (l := (els'.drop k).take len) (A := some ⟨b, k * B.sz, none⟩) (cap := cap) (b := b) (off := k * B.sz) (f := fun q j => arr.getD ((k + q) * B.sz + j) undef)
      (fun _ => ⟨rfl, ?_, lt_of_block a1⟩) (by omega) (by omega) (fun q e' he => ?_) (fun q j e x he hj => ?_) (fun q j e x he hj => ?_) hfr'
    · rw [hll] at this
      exact this
    · rintro (h | ⟨i', h3, h4⟩)
      · exact hm.sep i b hlive e1 h
      · obtain ⟨h5, h6, h7⟩ := mwk_some h4
        have := hm.inj i' i b h5 hlive h7 e1
        subst this
        exact h6 h2
    · obtain ⟨e, q1, q2, _⟩ := hold _ e' (hget q e' he)
      rw [q2]
      exact (a3 _ e q1).1
    · obtain ⟨u, q1, q2, q3, _⟩ := hcell q j e x he hj
      refine ⟨?_, by rw [q1]; exact q3⟩
      rw [q1, show k * B.sz + (q * B.sz + j) = (k + q) * B.sz + j from by rw [Nat.add_mul]; omega]
      simp [World.cell?, a1, q2]
    · obtain ⟨u, q1, _, _, q4⟩ := hcell q j e x he hj
      rw [q1]
      exact q4
theorem wv_pfrz {i ver k j : Nat} {B : Blk} {e e' : List AV} (hM : isM B.box B.ty = false) (h1 : η i = ⟨ver, some B⟩) (h2 : (η' i).blk = none) (he : B.els[k]? = some e) (hl : e'.length = e.length) (hw : ∀ (j : Nat) (x x' : AV), e[j]? = some x → e'[j]? = some x' → WV N η η' x x') : WV N η η' (.ptr i ver k j) (.pim e' j) := by
  intro w m v hm hv
  obtain ⟨b, e1, rfl⟩ := rv_ptr hv h1
  have hok := hm.ok i B (by rw [h1])
  rw [e1] at hok
  obtain ⟨arr, a1, a2, a3⟩ := hok.cellsF hM
  have hlive : (η i).blk ≠ none := by rw [h1]; simp
  have hcell : ∀ (q : Nat) (x' : AV), e'[q]? = some x' → ∃ u, arr.getD (k * B.sz + q) undef = u ∧ arr[k * B.sz + q]? = some u ∧ RV w (shp η') (mwk η η' m) x' u := fun q x' hq => by
    have hlt : q < e.length := by rw [← hl]; exact (List.getElem?_eq_some_iff.1 hq).1
    obtain ⟨u, u1, _, u3⟩ := (a3 _ e he).2 q _ (List.getElem?_eq_getElem hlt)
    exact ⟨u, by simp [Array.getD_eq_getD_getElem?, u1], u1, hw q _ x' (List.getElem?_eq_getElem hlt) hq w m u hm u3⟩
  refine .pim (b := b) (off := k * B.sz) (f := fun q => arr.getD (k * B.sz + q) undef) ?_ (lt_of_block a1) (fun q x hq => ?_) (fun q x hq => ?_)
  · rintro (h | ⟨i', h3, h4⟩)
    · exact hm.sep i b hlive e1 h
    · obtain ⟨h5, h6, h7⟩ := mwk_some h4
      have := hm.inj i' i b h5 hlive h7 e1
      subst this
      exact h6 h2
  · obtain ⟨u, q1, q2, _⟩ := hcell q x hq
    rw [q1]
    simp [World.cell?, a1, q2]
  · obtain ⟨u, q1, _, q3⟩ := hcell q x hq
    rw [q1]
    exact q3
theorem wv_mpf {i ver : Nat} {B : Blk} (hM : isM B.box B.ty = true) (h1 : η i = ⟨ver, some B⟩) (h2 : (η' i).blk = none) (hfr : FrL B.els) : WV N η η' (.mp i ver) (.mpi B.els) := by
  intro w m v hm hv
  obtain ⟨b, e1, rfl⟩ := rv_mp hv h1
  have hok := hm.ok i B (by rw [h1])
  rw [e1] at hok
  obtain ⟨arr, a1, a2, a3⟩ := hok
  obtain ⟨es, c, q1, q2, q3, ⟨q4, _⟩, q5⟩ := a1.2 hM
  have hlive : (η i).blk ≠ none := by rw [h1]; simp
  have hcell : ∀ (k j : Nat) (e : List AV) (x : AV) (z : MapEntry), B.els[k]? = some e → es[k]? = some z → e[j]? = some x → ∃ u, arr[k * 2 + j]? = some u ∧ RV w (shp η) m x u := fun k j e x z he _ hj => by
    obtain ⟨u, u1, _, u3⟩ := (a3 _ e he).2 j x hj
    rw [q4] at u1
    exact ⟨u, u1, u3⟩
  refine RV.mpi (fun ho => ?_) q1 q3 q5 (fun k e z x he hz hx => ?_) (fun k e z x he hz hx => ?_) hfr
  · rcases ho with h | ⟨i', h3, h4⟩
    · exact hm.sep i b hlive e1 h
    · obtain ⟨h5, h6, h7⟩ := mwk_some h4
      have := hm.inj i' i b h5 hlive h7 e1
      subst this
      exact h6 h2
  · obtain ⟨u, u1, u3⟩ := hcell k 0 e x z he hz hx
    have := (flatE_at es.toList k z (by simpa using hz)).1
    rw [q2, List.getElem?_toArray, Nat.add_zero, this] at u1
    injection u1 with u1
    rw [u1]
    exact rv_fr (hfr e (List.mem_of_getElem? he) x (List.mem_of_getElem? hx)) (fun _ => owned_wk) u3
  · obtain ⟨u, u1, u3⟩ := hcell k 1 e x z he hz hx
    have := (flatE_at es.toList k z (by simpa using hz)).2
    rw [q2, List.getElem?_toArray, this] at u1
    injection u1 with u1
    rw [u1]
    exact rv_fr (hfr e (List.mem_of_getElem? he) x (List.mem_of_getElem? hx)) (fun _ => owned_wk) u3
/-- what is said of a value may be said otherwise -/
def Cv (x y : AV) : Prop := ∀ w vs m v, RV w vs m x v → RV w vs m y v
/-- a value whose own memory becomes immutable (the blocks that are no more) -/
inductive BW (η η' : Nat → Ent) : AV → AV → Prop
  | cv {x y : AV} : Cv x y → Fr y → BW η η' x y
  | mpf {i ver : Nat} {B : Blk} {l : List (List AV)} : isM B.box B.ty = true → η i = ⟨ver, some B⟩ → (η' i).blk = none → FrL B.els → l = B.els → BW η η' (.mp i ver) (.mpi l)
  | fr {x : AV} : Fr x → BW η η' x x
  | sl {sz : Nat} {l : List (List AV)} : BW η η' (.sl sz l) (.sl sz l)
  | nil {sz cc : Nat} : BW η η' (.c (.slice none 0 cc)) (.sl sz [])
  | own {i ver k len sz : Nat} {B : Blk} {els' l : List (List AV)} : η i = ⟨ver, some B⟩ → (η' i).blk = none → B.sz = sz → els'.length = B.els.length →
      (∀ (k : Nat) (e e' : List AV), B.els[k]? = some e → els'[k]? = some e' → e'.length = e.length) → (∀ (k : Nat) (e e' : List AV), B.els[k]? = some e → els'[k]? = some e' → ∀ (j : Nat) (x x' : AV), e[j]? = some x → e'[j]? = some x' → BW η η' x x') →
      k + len ≤ els'.length → FrL els' → len ≤ 140737488355328 → l = (els'.drop k).take len → BW η η' (.own i ver k len) (.sl sz l)
  | ptr {i ver k j : Nat} {B : Blk} {e e' : List AV} : isM B.box B.ty = false → η i = ⟨ver, some B⟩ → (η' i).blk = none → B.els[k]? = some e → e'.length = e.length → (∀ (j : Nat) (x x' : AV), e[j]? = some x → e'[j]? = some x' → BW η η' x x') → BW η η' (.ptr i ver k j) (.pim e' j)
  | agg {cs cs' : List AV} : cs.length = cs'.length → (∀ (j : Nat) (x x' : AV), cs[j]? = some x → cs'[j]? = some x' → BW η η' x x') → BW η η' (.agg cs) (.agg cs')
  | clo {f : Fn} {cs cs' ds ds' : List AV} : cs.length = cs'.length → (∀ (j : Nat) (x x' : AV), cs[j]? = some x → cs'[j]? = some x' → BW η η' x x') → ds.length = ds'.length → (∀ (j : Nat) (x x' : AV), ds[j]? = some x → ds'[j]? = some x' → BW η η' x x') → BW η η' (.clo f cs ds) (.clo f cs' ds')
theorem BW.wv {x x' : AV} (h : BW η η' x x') : WV N η η' x x' := by
  induction h with
  | cv h hf => exact fun w m v hm hv => rv_fr hf (fun _ => owned_wk) (h _ _ _ _ hv)
  | mpf hM h1 h2 hf he => subst he; exact wv_mpf hM h1 h2 hf
  | fr h => exact wv_fr h
  | sl => exact wv_sl
  | nil => intro w m v hm hv; rw [rv_c hv]; exact RV.sl (l := []) (b := 0) (off := 0) (f := fun _ _ => undef) (fun h => absurd rfl h) (Nat.zero_le _) (by simp) (fun k e h => by simp at h) (fun k j e x h => by simp at h) (fun k j e x h => by simp at h) (fun e he => by cases he)
  | own h1 h2 hs hl hl2 _ hkl hfr hmax he ih => subst hs he; exact wv_frz2 h1 h2 hl (fun k e e' q1 q2 => ⟨hl2 k e e' q1 q2, ih k e e' q1 q2⟩) hkl hfr hmax
  | ptr hM h1 h2 he hl _ ih => exact wv_pfrz hM h1 h2 he hl ih
  | agg hl _ ih => exact wv_agg hl ih
  | clo hl _ hl2 _ ih ih2 => exact wv_clo hl ih hl2 ih2
/-- what becomes of a closure: frozen with what it holds, or its pointers live on -/
inductive CloK (η η' : Nat → Ent) : AV → AV → Prop
  | bw {x y : AV} : BW η η' x y → CloK η η' x y
  | own {f : Fn} {ds ds' : List AV} : ds.length = ds'.length → (∀ (j : Nat) (x x' : AV), ds[j]? = some x → ds'[j]? = some x' → ∀ N, WV N η η' x x') → CloK η η' (.clo f [] ds) (.clo f [] ds')
theorem CloK.wv {x x' : AV} (h : CloK η η' x x') : WV N η η' x x' := by
  cases h with
  | bw h => exact h.wv
  | own hl h => exact wv_clo rfl (fun j x x' h => by simp at h) hl (fun j x x' h1 h2 => h j x x' h1 h2 N)
theorem cloK3 {f : Fn} {i1 i2 i3 v1 v2 v3 w1 w2 w3 k1 k2 k3 j1 j2 j3 : Nat} {B1 B2 B3 C1 C2 C3 : Blk} (h1 : η i1 = ⟨v1, some B1⟩) (g1 : η' i1 = ⟨w1, some C1⟩) (s1 : B1.sz = C1.sz) (h2 : η i2 = ⟨v2, some B2⟩) (g2 : η' i2 = ⟨w2, some C2⟩) (s2 : B2.sz = C2.sz) (h3 : η i3 = ⟨v3, some B3⟩) (g3 : η' i3 = ⟨w3, some C3⟩) (s3 : B3.sz = C3.sz) :
    CloK η η' (.clo f [] [.ptr i1 v1 k1 j1, .ptr i2 v2 k2 j2, .ptr i3 v3 k3 j3]) (.clo f [] [.ptr i1 w1 k1 j1, .ptr i2 w2 k2 j2, .ptr i3 w3 k3 j3]) :=
  .own rfl (fun j x x' q1 q2 N => by
    match j with
    | 0 => simp at q1 q2; subst q1 q2; exact wv_ptr h1 g1 s1
    | 1 => simp at q1 q2; subst q1 q2; exact wv_ptr h2 g2 s2
    | 2 => simp at q1 q2; subst q1 q2; exact wv_ptr h3 g3 s3
    | j + 3 => simp at q1)
/-- what the elements of a row become -/
inductive RowK (η η' : Nat → Ent) : List (List AV) → List (List AV) → Prop
  | same {els els' : List (List AV)} : els = els' → FrL els → RowK η η' els els'
  | part {els els' : List (List AV)} : els'.length = els.length → (∀ (k : Nat) (e e' : List AV), els[k]? = some e → els'[k]? = some e' → e'.length = e.length ∧ ∀ (j : Nat) (x x' : AV), e[j]? = some x → e'[j]? = some x' → BW η η' x x') → RowK η η' els els'
  | wv {els els' : List (List AV)} : els'.length = els.length → (∀ (k : Nat) (e e' : List AV), els[k]? = some e → els'[k]? = some e' → e'.length = e.length ∧ ∀ (j : Nat) (x x' : AV), e[j]? = some x → e'[j]? = some x' → ∀ N, WV N η η' x x') → RowK η η' els els'

/-- an entry may be weakened -/
def WE (N : Nat) (η η' : Nat → Ent) (i : Nat) : Prop :=
  ∀ B', (η' i).blk = some B' → (∃ B, (η i).blk = some B ∧ B'.ty = B.ty ∧ B'.sz = B.sz ∧ B'.box = B.box ∧ B'.els.length = B.els.length ∧ ∀ (k : Nat) (e e' : List AV), B.els[k]? = some e → B'.els[k]? = some e' → e'.length = e.length ∧ ∀ (j : Nat) (x x' : AV), e[j]? = some x → e'[j]? = some x' → WV N η η' x x') ∨
    ((η i).blk = none ∧ B'.els = [] ∧ B'.box = false)
theorem rep_wk {C : Cx} {n : Nat} {w0 : World} {X : XX} {τ τ' : Nat → AV} {η η' : Nat → Ent} {m : MM} {a : Act} {w : World} (h : Rep C n w0 X τ η m a w) (ht : ∀ t, WV C.N η η' (τ t) (τ' t)) (he : ∀ i, WE C.N η η' i) (hkp : ∀ i, X.ks i → n ≤ i → (η i).blk ≠ none → (η' i).blk ≠ none) : Rep C n w0 X τ' η' (mwk η η' m) a w := by
  refine ⟨fun t => ht t w m _ h.mem (h.tm t), h.sz, h.df, ⟨fun i B' hB' => ?_, fun i i' b h1 h2 h3 h4 => ?_, fun i b h1 h2 => ?_, fun i b h1 h2 => ?_, h.mem.olt, h.mem.big⟩, h.kin, h.oo, fun i b h1 h2 => ?_, h.gl, fun i hi => ?_, h.pw⟩
  · rcases he i B' hB' with ⟨B, hB, e1, e2, e0, e3, e4⟩ | ⟨e1, e2, e3⟩
    · have hk := mwk_kept (m := m) (i := i) rfl rfl hB hB'
      rw [hk]
      have hok := h.mem.ok i B hB
      cases hmi : m i with
      | none =>
        rw [hmi] at hok
        have : B.els = [] := hok.1
        have hl : B'.els = [] := List.length_eq_zero_iff.1 (by rw [e3, this]; rfl)
        exact ⟨hl, by rw [e0]; exact hok.2⟩
      | some b =>
        rw [hmi] at hok
        obtain ⟨arr, a1, a2, a3⟩ := hok
        refine ⟨arr, a1.congr e0 e1 e3 e2, by rw [e3, e2]; exact a2, fun k e' he' => ?_⟩
        have hlt : k < B.els.length := by rw [← e3]; exact (List.getElem?_eq_some_iff.1 he').1
        have hge := List.getElem?_eq_getElem hlt
        obtain ⟨l1, l2⟩ := e4 k _ e' hge he'
        obtain ⟨q1, q2⟩ := a3 k _ hge
        refine ⟨by rw [l1, q1, e2], fun j x' hx' => ?_⟩
        have hj : j < (B.els[k]).length := by rw [← l1]; exact (List.getElem?_eq_some_iff.1 hx').1
        have hgj := List.getElem?_eq_getElem hj
        obtain ⟨u, u1, u2, u3⟩ := q2 j _ hgj
        exact ⟨u, by rw [e2]; exact u1, by rw [e0, e1]; exact u2, l2 j _ x' hgj hx' w m u h.mem u3⟩
    · rw [mwk_none e1]
      exact ⟨e2, e3⟩
  · obtain ⟨a1, _, a3⟩ := mwk_some h3
    obtain ⟨b1, _, b3⟩ := mwk_some h4
    exact h.mem.inj i i' b a1 b1 a3 b3
  · obtain ⟨a1, _, a3⟩ := mwk_some h2
    exact h.mem.low i b a1 a3
  · obtain ⟨a1, _, a3⟩ := mwk_some h2
    exact h.mem.sep i b a1 a3
  · obtain ⟨a1, _, a3⟩ := mwk_some h2
    exact h.own i b a1 a3
  · obtain ⟨k1, k2, k3, k4⟩ := h.kk i hi
    have k5 := hkp i hi k1 k2
    have hm : mwk η η' m i = m i := by
      cases hB : (η i).blk with
      | none => exact absurd hB k2
      | some B =>
        cases hB' : (η' i).blk with
        | none => exact absurd hB' k5
        | some B' => exact mwk_kept rfl rfl hB hB'
    exact ⟨k1, k5, by rw [hm, k3], fun b hb => k4 b (by rw [← hm]; exact hb)⟩
end

structure St where
  tm : List AV
  hp : List Ent

/-- what is left to show when a value is weakened -/
def wkV0 (hp hp' : List Ent) (x x' : AV) (K : Prop) : Prop :=
  match x' with
  | .dead => K
  | .own i' ver' k' len' => match x with
    | .own i ver k len => ifK (i.beq i') (blkK hp i ver (fun B => blkK hp' i' ver' (fun B' => ifK (B.sz.beq B'.sz) ((k = k' ∧ len = len') ∧ K))))
    | .c (.slice none 0 0) => getK hp i' (fun e => match e.blk with
      | none => blkK hp' i' ver' (fun _ => (k' = 0 ∧ len' = 0) ∧ K)
      | some _ => False)
    | _ => False
  | .ptr i' ver' k' j' => match x with
    | .ptr i ver k j => ifK (i.beq i') (blkK hp i ver (fun B => blkK hp' i' ver' (fun B' => ifK (B.sz.beq B'.sz) ((k = k' ∧ j = j') ∧ K))))
    | _ => False
  | .ptrO i' ver' k' j' => match x with
    | .ptrO i ver k j => ifK (i.beq i') (blkK hp i ver (fun B => blkK hp' i' ver' (fun B' => ifK (B.sz.beq B'.sz) ((k = k' ∧ j = j') ∧ K))))
    | .ptr i ver k j => ifK (i.beq i') (blkK hp i ver (fun B => blkK hp' i' ver' (fun B' => ifK (B.sz.beq B'.sz) ((k = k' ∧ j = j') ∧ K))))
    | .c (.pointer none) => blkK hp' i' ver' (fun _ => K)
    | _ => False
  | .mp i' ver' => match x with
    | .mp i ver => ifK (i.beq i') (blkK hp i ver (fun B => blkK hp' i' ver' (fun B' => ifK (B.sz.beq B'.sz) K)))
    | _ => False
  | .sl sz' l' => match x with
    | .own i ver k len => BW (hpF hp) (hpF hp') (.own i ver k len) (.sl sz' l') ∧ K
    | .sl sz l => (sz = sz' ∧ l = l') ∧ K
    | .c (.slice none 0 0) => (l' = []) ∧ K
    | _ => False
  | .c v' => (x = .c v') ∧ K
  | x' => BW (hpF hp) (hpF hp') x x' ∧ K
def wkT0 (hp hp' : List Ent) : List AV → List AV → Prop → Prop
  | [], [], K => K
  | x :: r, x' :: r', K => wkV0 hp hp' x x' (wkT0 hp hp' r r' K)
  | _, _, _ => False
def wkV (hp hp' : List Ent) (x x' : AV) (K : Prop) : Prop :=
  match x' with
  | .agg cs' => match x with
    | .agg cs => wkT0 hp hp' cs cs' K
    | _ => False
  | .ifc t' y' => match x with
    | .ifc t y => ifK (Nat.beq t t') (wkV0 hp hp' y y' K)
    | _ => False
  | .clo f' cs' ds' => CloK (hpF hp) (hpF hp') x (.clo f' cs' ds') ∧ K
  | x' => wkV0 hp hp' x x' K
def wkT (hp hp' : List Ent) : List AV → List AV → Prop → Prop
  | [], [], K => K
  | x :: r, x' :: r', K => wkV hp hp' x x' (wkT hp hp' r r' K)
  | _, _, _ => False
def wkE (hp hp' : List Ent) (e e' : Ent) (K : Prop) : Prop :=
  match e'.blk with
  | none => K
  | some B' => match e.blk with
    | none => ifK (!B'.box) ((B'.els = []) ∧ K)
    | some B => ifK (B.ty.beq B'.ty && B.sz.beq B'.sz) (match isM B.box B.ty, B.box, B'.box, B.els, B'.els with
      | false, true, true, [c], [c'] => wkT hp hp' c c' K
      | false, false, false, els, els' => RowK (hpF hp) (hpF hp') els els' ∧ K
      | true, true, true, els, els' => RowK (hpF hp) (hpF hp') els els' ∧ K
      | _, _, _, _, _ => False)
def wkH (hp hp' : List Ent) : List Ent → List Ent → Prop → Prop
  | _, [], K => K
  | e :: r, e' :: r', K => wkE hp hp' e e' (wkH hp hp' r r' K)
  | _, _, _ => False
/-- the names that keep their blocks are live still -/
def keepL : List Ent → List Ent → Bool
  | [], _ => true
  | ⟨_, none⟩ :: r, [] => keepL r []
  | ⟨_, some _⟩ :: _, [] => false
  | ⟨_, none⟩ :: r, _ :: r' => keepL r r'
  | ⟨_, some _⟩ :: r, ⟨_, some _⟩ :: r' => keepL r r'
  | ⟨_, some _⟩ :: _, ⟨_, none⟩ :: _ => false
def dropK {α : Type} : Nat → List α → List α
  | 0, l => l
  | _ + 1, [] => []
  | n + 1, _ :: r => dropK n r
def leK (s s' : St) (K : Prop) : Prop := ifK (keepL (dropK s.tm.length s.hp) (dropK s.tm.length s'.hp)) (wkT s.hp s'.hp s.tm s'.tm (wkH s.hp s'.hp s.hp s'.hp K))
theorem dropK_get {l : List Ent} : ∀ {n : Nat} {i : Nat}, hpF (dropK n l) i = hpF l (n + i) := by
  intro n
  induction n generalizing l with
  | zero => intro i; rw [Nat.zero_add]; rfl
  | succ n ih =>
    intro i
    cases l with
    | nil => simp [dropK]
    | cons e r => rw [dropK, ih, show n + 1 + i = (n + i) + 1 from by omega]; simp
theorem keepL_at : ∀ {l l' : List Ent}, keepL l l' = true → ∀ i, (hpF l i).blk ≠ none → (hpF l' i).blk ≠ none
  | [], _, _, i, h => by simp at h
  | ⟨_, none⟩ :: r, [], h, i, hi => by
    cases i with
    | zero => simp at hi
    | succ i => have := keepL_at (l := r) (l' := []) h i (by simpa using hi); simp at this
  | ⟨_, some _⟩ :: _, [], h, _, _ => by simp [keepL] at h
  | ⟨_, none⟩ :: r, _ :: r', h, i, hi => by
    cases i with
    | zero => simp at hi
    | succ i => have := keepL_at (l := r) (l' := r') h i (by simpa using hi); simpa using this
  | ⟨_, some _⟩ :: r, ⟨_, some _⟩ :: r', h, i, hi => by
    cases i with
    | zero => simp
    | succ i => have := keepL_at (l := r) (l' := r') h i (by simpa using hi); simpa using this
  | ⟨_, some _⟩ :: _, ⟨_, none⟩ :: _, h, _, _ => by simp [keepL] at h

section
variable {N : Nat}
theorem wkV0_ok {hp hp' : List Ent} {x x' : AV} {K : Prop} (h : wkV0 hp hp' x x' K) : WV N (hpF hp) (hpF hp') x x' ∧ K := by
  unfold wkV0 at h
  split at h
  · exact ⟨wv_dead _, h⟩
  · split at h
    · obtain ⟨h1, h⟩ := ifK_ok h
      obtain ⟨B, hB, h⟩ := blkK_ok h
      obtain ⟨B', hB', h⟩ := blkK_ok h
      obtain ⟨h2, ⟨rfl, rfl⟩, hK⟩ := ifK_ok h
      have := Nat.eq_of_beq_eq_true h1
      subst this
      exact ⟨wv_own hB hB' (Nat.eq_of_beq_eq_true h2), hK⟩
    · obtain ⟨e, he, h⟩ := getK_ok h
      split at h
      · rename_i hn
        obtain ⟨B', hB', ⟨rfl, rfl⟩, hK⟩ := blkK_ok h
        exact ⟨wv_thaw (by rw [hp_get he]; exact hn) hB' rfl, hK⟩
      · exact h.elim
    · exact h.elim
  · split at h
    · obtain ⟨h1, h⟩ := ifK_ok h
      obtain ⟨B, hB, h⟩ := blkK_ok h
      obtain ⟨B', hB', h⟩ := blkK_ok h
      obtain ⟨h2, ⟨rfl, rfl⟩, hK⟩ := ifK_ok h
      have := Nat.eq_of_beq_eq_true h1
      subst this
      exact ⟨wv_ptr hB hB' (Nat.eq_of_beq_eq_true h2), hK⟩
    · exact h.elim
  · split at h
    · obtain ⟨h1, h⟩ := ifK_ok h
      obtain ⟨B, hB, h⟩ := blkK_ok h
      obtain ⟨B', hB', h⟩ := blkK_ok h
      obtain ⟨h2, ⟨rfl, rfl⟩, hK⟩ := ifK_ok h
      have := Nat.eq_of_beq_eq_true h1
      subst this
      exact ⟨wv_ptrO hB hB' (Nat.eq_of_beq_eq_true h2), hK⟩
    · obtain ⟨h1, h⟩ := ifK_ok h
      obtain ⟨B, hB, h⟩ := blkK_ok h
      obtain ⟨B', hB', h⟩ := blkK_ok h
      obtain ⟨h2, ⟨rfl, rfl⟩, hK⟩ := ifK_ok h
      have := Nat.eq_of_beq_eq_true h1
      subst this
      exact ⟨wv_pO hB hB' (Nat.eq_of_beq_eq_true h2), hK⟩
    · obtain ⟨B', hB', hK⟩ := blkK_ok h
      exact ⟨wv_nO hB', hK⟩
    · exact h.elim
  · split at h
    · obtain ⟨h1, h⟩ := ifK_ok h
      obtain ⟨B, hB, h⟩ := blkK_ok h
      obtain ⟨B', hB', h⟩ := blkK_ok h
      obtain ⟨h2, hK⟩ := ifK_ok h
      have := Nat.eq_of_beq_eq_true h1
      subst this
      exact ⟨wv_mp hB hB', hK⟩
    · exact h.elim
  · split at h
    · exact ⟨h.1.wv, h.2⟩
    · obtain ⟨⟨rfl, rfl⟩, h⟩ := h
      exact ⟨wv_sl, h⟩
    · obtain ⟨rfl, h⟩ := h
      exact ⟨wv_nil, h⟩
    · exact h.elim
  · obtain ⟨rfl, h⟩ := h
    exact ⟨wv_fr (.c _), h⟩
  · exact ⟨h.1.wv, h.2⟩
theorem wkT0_ok {hp hp' : List Ent} : ∀ {l l' : List AV} {K : Prop}, wkT0 hp hp' l l' K → l.length = l'.length ∧ (∀ (j : Nat) (x x' : AV), l[j]? = some x → l'[j]? = some x' → WV N (hpF hp) (hpF hp') x x') ∧ K
  | [], [], K, h => ⟨rfl, fun j x x' hx => by simp at hx, h⟩
  | x :: r, x' :: r', K, h => by
    obtain ⟨h1, h2⟩ := wkV0_ok (N := N) h
    obtain ⟨h3, h4, h5⟩ := wkT0_ok (l := r) (l' := r') h2
    refine ⟨by simp [h3], fun j y y' hy hy' => ?_, h5⟩
    cases j with
    | zero => simp at hy hy'; subst hy hy'; exact h1
    | succ j => exact h4 j y y' (by simpa using hy) (by simpa using hy')
  | [], _ :: _, _, h => h.elim
  | _ :: _, [], _, h => h.elim
theorem wkV_ok {hp hp' : List Ent} {x x' : AV} {K : Prop} (h : wkV hp hp' x x' K) : WV N (hpF hp) (hpF hp') x x' ∧ K := by
  unfold wkV at h
  split at h
  · split at h
    · obtain ⟨h1, h2, h3⟩ := wkT0_ok (N := N) h
      exact ⟨wv_agg h1 h2, h3⟩
    · exact h.elim
  · split at h
    · obtain ⟨h1, g⟩ := ifK_ok h
      obtain ⟨h2, h3⟩ := wkV0_ok (N := N) g
      have e := Nat.eq_of_beq_eq_true h1
      subst e
      exact ⟨wv_ifc h2, h3⟩
    · exact h.elim
  · exact ⟨h.1.wv, h.2⟩
  · exact wkV0_ok h
theorem wkT_ok {hp hp' : List Ent} : ∀ {l l' : List AV} {K : Prop}, wkT hp hp' l l' K → l.length = l'.length ∧ (∀ (j : Nat) (x x' : AV), l[j]? = some x → l'[j]? = some x' → WV N (hpF hp) (hpF hp') x x') ∧ K
  | [], [], K, h => ⟨rfl, fun j x x' hx => by simp at hx, h⟩
  | x :: r, x' :: r', K, h => by
    obtain ⟨h1, h2⟩ := wkV_ok (N := N) h
    obtain ⟨h3, h4, h5⟩ := wkT_ok (l := r) (l' := r') h2
    refine ⟨by simp [h3], fun j y y' hy hy' => ?_, h5⟩
    cases j with
    | zero => simp at hy hy'; subst hy hy'; exact h1
    | succ j => exact h4 j y y' (by simpa using hy) (by simpa using hy')
  | [], _ :: _, _, h => h.elim
  | _ :: _, [], _, h => h.elim
theorem wkE_ok {hp hp' : List Ent} {i : Nat} {e e' : Ent} {K : Prop} (he : hpF hp i = e) (he' : hpF hp' i = e') (h : wkE hp hp' e e' K) : WE N (hpF hp) (hpF hp') i ∧ K := by
  unfold wkE at h
  split at h
  · rename_i hn
    exact ⟨fun B' hB' => (by rw [he', hn] at hB'; cases hB'), h⟩
  · rename_i B' hB'
    split at h
    · rename_i hn
      obtain ⟨h1, h2, h⟩ := ifK_ok h
      refine ⟨fun B'' hB'' => .inr ⟨by rw [he, hn], ?_, ?_⟩, h⟩
      · rw [he', hB'] at hB''; injection hB'' with hB''; rw [← hB'']; exact h2
      · rw [he', hB'] at hB''; injection hB'' with hB''; rw [← hB'']; simpa using h1
    · rename_i B hB
      obtain ⟨h1, hh⟩ := ifK_ok h
      clear h
      rw [Bool.and_eq_true] at h1
      have e1 := Nat.eq_of_beq_eq_true h1.1
      have e2 := Nat.eq_of_beq_eq_true h1.2
      clear h1
      obtain ⟨ty, sz, box, els⟩ := B
      obtain ⟨ty', sz', box', els'⟩ := B'
      simp only at e1 e2
      subst e1 e2
      split at hh
      · rename_i c c' _ b1 b2 l1 l2
        simp only at b1 b2 l1 l2
        subst b1 b2 l1 l2
        obtain ⟨h3, h4, h5⟩ := wkT_ok (N := N) hh
        refine ⟨fun B'' hB'' => .inl ⟨_, by rw [he, hB], ?_⟩, h5⟩
        rw [he', hB'] at hB''
        injection hB'' with hB''
        subst hB''
        refine ⟨rfl, rfl, rfl, rfl, fun k q q' hq hq' => ?_⟩
        cases k with
        | zero => simp at hq hq'; subst hq hq'; exact ⟨h3.symm, h4⟩
        | succ k => simp at hq
      · rename_i els1 els2 _ b1 b2
        simp only at b1 b2
        obtain ⟨h34, h5⟩ := hh
        subst b1 b2
        refine ⟨fun B'' hB'' => .inl ⟨_, by rw [he, hB], ?_⟩, h5⟩
        rw [he', hB'] at hB''
        injection hB'' with hB''
        subst hB''
        cases h34 with
        | same h3 h4 =>
          simp only at h3 h4
          subst h3
          refine ⟨rfl, rfl, rfl, rfl, fun k q q' hq hq' => ?_⟩
          simp only at hq hq'
          rw [hq] at hq'
          injection hq' with hq'
          subst hq'
          refine ⟨rfl, fun j x x' hx hx' => ?_⟩
          rw [hx] at hx'
          injection hx' with hx'
          subst hx'
          exact wv_fr (h4 q (List.mem_of_getElem? hq) x (List.mem_of_getElem? hx))
        | part h3 h4 =>
          exact ⟨rfl, rfl, rfl, h3, fun k q q' hq hq' => ⟨(h4 k q q' hq hq').1, fun j x x' hx hx' => ((h4 k q q' hq hq').2 j x x' hx hx').wv⟩⟩
        | wv h3 h4 =>
          exact ⟨rfl, rfl, rfl, h3, fun k q q' hq hq' => ⟨(h4 k q q' hq hq').1, fun j x x' hx hx' => (h4 k q q' hq hq').2 j x x' hx hx' _⟩⟩
      · rename_i els1 els2 _ b1 b2
        simp only at b1 b2
        obtain ⟨h34, h5⟩ := hh
        subst b1 b2
        refine ⟨fun B'' hB'' => .inl ⟨_, by rw [he, hB], ?_⟩, h5⟩
        rw [he', hB'] at hB''
        injection hB'' with hB''
        subst hB''
        cases h34 with
        | same h3 h4 =>
          simp only at h3 h4
          subst h3
          refine ⟨rfl, rfl, rfl, rfl, fun k q q' hq hq' => ?_⟩
          simp only at hq hq'
          rw [hq] at hq'
          injection hq' with hq'
          subst hq'
          refine ⟨rfl, fun j x x' hx hx' => ?_⟩
          rw [hx] at hx'
          injection hx' with hx'
          subst hx'
          exact wv_fr (h4 q (List.mem_of_getElem? hq) x (List.mem_of_getElem? hx))
        | part h3 h4 =>
          exact ⟨rfl, rfl, rfl, h3, fun k q q' hq hq' => ⟨(h4 k q q' hq hq').1, fun j x x' hx hx' => ((h4 k q q' hq hq').2 j x x' hx hx').wv⟩⟩
        | wv h3 h4 =>
          exact ⟨rfl, rfl, rfl, h3, fun k q q' hq hq' => ⟨(h4 k q q' hq hq').1, fun j x x' hx hx' => (h4 k q q' hq hq').2 j x x' hx hx' _⟩⟩
      · exact hh.elim
theorem wkH_ok {hp hp' : List Ent} : ∀ (l l' : List Ent) (i0 : Nat) {K : Prop}, (∀ i, hpF hp (i0 + i) = l.getD i ⟨0, none⟩) → (∀ i, hpF hp' (i0 + i) = l'.getD i ⟨0, none⟩) → wkH hp hp' l l' K → (∀ i, i0 ≤ i → WE N (hpF hp) (hpF hp') i) ∧ K
  | l, [], i0, K, h1, h2, h => by
    have h' : K := by cases l <;> exact h
    refine ⟨fun i hi B' hB' => ?_, h'⟩
    have := h2 (i - i0)
    rw [show i0 + (i - i0) = i from by omega] at this
    rw [this] at hB'
    simp at hB'
  | e :: r, e' :: r', i0, K, h1, h2, h => by
    have q1 : hpF hp i0 = e := by simpa using h1 0
    have q2 : hpF hp' i0 = e' := by simpa using h2 0
    obtain ⟨h3, h4⟩ := wkE_ok (N := N) q1 q2 h
    obtain ⟨h5, h6⟩ := wkH_ok r r' (i0 + 1) (fun i => by have := h1 (i + 1); rw [show i0 + 1 + i = i0 + (i + 1) from by omega]; simpa using this) (fun i => by have := h2 (i + 1); rw [show i0 + 1 + i = i0 + (i + 1) from by omega]; simpa using this) h4
    refine ⟨fun i hi => ?_, h6⟩
    rcases Nat.eq_or_lt_of_le hi with h | h
    · subst h; exact h3
    · exact h5 i h
  | [], _ :: _, _, _, _, _, h => h.elim
end

def RepS (C : Cx) (w0 : World) (X : XX) (s : St) (m : MM) (a : Act) (w : World) : Prop := Rep C s.tm.length w0 X (tmF s.tm) (hpF s.hp) m a w
theorem leK_ok {C : Cx} {s s' : St} {K : Prop} (h : leK s s' K) : s'.tm.length = s.tm.length ∧ K ∧ ∀ w0 X m a w, RepS C w0 X s m a w → ∃ m', RepS C w0 X s' m' a w := by
  obtain ⟨hkeep, h⟩ := ifK_ok h
  obtain ⟨h1, h2, h3⟩ := wkT_ok (N := C.N) h
  obtain ⟨h4, h5⟩ := wkH_ok (N := C.N) s.hp s'.hp 0 (fun i => by rw [Nat.zero_add]) (fun i => by rw [Nat.zero_add]) h3
  refine ⟨h1.symm, h5, fun w0 X m a w hr => ⟨mwk (hpF s.hp) (hpF s'.hp) m, ?_⟩⟩
  unfold RepS at hr ⊢
  rw [← h1]
  refine rep_wk hr (fun t => ?_) (fun i => h4 i (Nat.zero_le _)) (fun i _ hi hl => ?_)
  · show WV C.N _ _ (s.tm.getD t .dead) (s'.tm.getD t .dead)
    rcases Nat.lt_or_ge t s.tm.length with hlt | hge
    · have a1 := List.getElem?_eq_getElem hlt
      have a2 := List.getElem?_eq_getElem (show t < s'.tm.length from by omega)
      have := h2 t _ _ a1 a2
      simpa [List.getD_eq_getElem?_getD, a1, a2] using this
    · rw [show s'.tm.getD t .dead = .dead from by rw [List.getD_eq_getElem?_getD, List.getElem?_eq_none (by omega)]; rfl]
      exact wv_dead _
  · have := keepL_at hkeep (i - s.tm.length) (by rw [dropK_get, show s.tm.length + (i - s.tm.length) = i from by omega]; exact hl)
    rw [dropK_get, show s.tm.length + (i - s.tm.length) = i from by omega] at this
    exact this

/-- code, from a state -/
def AWP (C : Cx) (c : Code) (Q : Exit → St → Prop) (s : St) : Prop :=
  ∀ w0 X m a w, RepS C w0 X s m a w → c.wp C.P (fun e a' w' => ∃ s' m', s'.tm.length = s.tm.length ∧ Q e s' ∧ RepS C w0 X s' m' a' w') a w
def thenA (next : St → Prop) (Q : Exit → St → Prop) : Exit → St → Prop
  | .normal, s => next s
  | e, s => Q e s
def ifB : Bool → Prop → Prop → Prop
  | true, p, _ => p
  | false, _, q => q
def blockA (id : Nat) (Q : Exit → St → Prop) : Exit → St → Prop
  | .exit j, s => ifB (j.beq id) (Q .normal s) (Q (.exit j) s)
  | e, s => Q e s
section
variable {C : Cx} {Q : Exit → St → Prop} {s : St}
theorem awp_mono {c : Code} {Q' : Exit → St → Prop} (h : AWP C c Q s) (hq : ∀ e s, Q e s → Q' e s) : AWP C c Q' s :=
  fun w0 X m a w hr => wp_mono (h w0 X m a w hr) (fun _ _ _ ⟨s', m', h1, h2, h3⟩ => ⟨s', m', h1, hq _ _ h2, h3⟩)
theorem awp_le {c : Code} {s' : St} (hl : leK s s' True) (h : AWP C c Q s') : AWP C c Q s := by
  obtain ⟨h1, _, h2⟩ := leK_ok (C := C) hl
  intro w0 X m a w hr
  obtain ⟨m', hr'⟩ := h2 w0 X m a w hr
  exact wp_mono (h w0 X m' a w hr') (fun _ _ _ ⟨s2, m2, g1, g2, g3⟩ => ⟨s2, m2, by rw [g1, h1], g2, g3⟩)
theorem aSk (h : Q .normal s) : AWP C .skip Q s := fun _ _ m _ _ hr => wp_skip ⟨s, m, rfl, h, hr⟩
theorem aEx {id : Nat} (h : Q (.exit id) s) : AWP C (.exit id) Q s := fun _ _ m _ _ hr => wp_exit ⟨s, m, rfl, h, hr⟩
theorem aRt (h : Q .ret s) : AWP C .ret Q s := fun _ _ m _ _ hr => wp_ret ⟨s, m, rfl, h, hr⟩
theorem aSq {x y : Code} (h : AWP C x (thenA (AWP C y Q) Q) s) : AWP C (.seq x y) Q s := by
  intro w0 X m a w hr
  refine wp_seq (wp_mono (h w0 X m a w hr) ?_)
  rintro e a' w' ⟨s', m', h1, h2, h3⟩
  cases e with
  | normal => exact wp_mono (h2 w0 X m' a' w' h3) (fun _ _ _ ⟨s2, m2, g1, g2, g3⟩ => ⟨s2, m2, by rw [g1, h1], g2, g3⟩)
  | _ => exact ⟨s', m', h1, h2, h3⟩
theorem aBk {id : Nat} {c : Code} (h : AWP C c (blockA id Q) s) : AWP C (.block id c) Q s := by
  intro w0 X m a w hr
  refine wp_block (wp_mono (h w0 X m a w hr) ?_)
  rintro e a' w' ⟨s', m', h1, h2, h3⟩
  cases e with
  | exit j =>
    simp only [Exit.inBlock]
    have h2' : ifB (j.beq id) (Q .normal s') (Q (.exit j) s') := h2
    split
    · rename_i hj
      rw [show j.beq id = true from by rw [hj]; exact Nat.beq_refl id] at h2'
      exact ⟨s', m', h1, h2', h3⟩
    · rename_i hj
      have : j.beq id = false := by
        cases hb : j.beq id
        · rfl
        · exact absurd (Nat.eq_of_beq_eq_true hb) hj
      rw [this] at h2'
      exact ⟨s', m', h1, h2', h3⟩
  | _ => exact ⟨s', m', h1, h2, h3⟩
theorem aCd {c : Operand} {x y : Code} {tm : List AV} {hp : List Ent} (h : evK tm c (fun a => match a with
    | .c (.bool t) => True → (t = true → AWP C x Q ⟨tm, hp⟩) ∧ (t = false → AWP C y Q ⟨tm, hp⟩)
    | _ => False)) : AWP C (.cond c x y) Q ⟨tm, hp⟩ := by
  intro w0 X m a w hr
  have h := evK_ok h
  split at h
  · rename_i t e
    have hv := Rep.ev hr c
    rw [e] at hv
    obtain ⟨h1, h2⟩ := h trivial
    exact wp_cond_split (rv_c hv) (fun ht => h1 ht w0 X m a w hr) (fun ht => h2 ht w0 X m a w hr)
  · exact h.elim
theorem aRg {id : Nat} {ops : Array Oper} {draw : Bool} {tm : List AV} {hp : List Ent} (h : vcT C ops ops.toList [] tm hp [] [] (fun fs tm hp => (draw = true → indepOk ops fs = true ∧ backOk ops.toList 0 = true) ∧ Q .normal ⟨tm, hp⟩)) : AWP C (.region id ops draw) Q ⟨tm, hp⟩ := by
  intro w0 X m a w hr
  obtain ⟨fs, tm', hp', h1, _, ⟨h3, h4⟩, h5⟩ := vcT_ok _ _ _ _ _ _ _ (fun d b hd => by cases hd) h
  refine wp_region_tr h1 (fun hd => ⟨C.mixed, by simpa using (h3 hd).1, (h3 hd).2⟩) hr (fun m' a' w' hr' => ⟨⟨tm', hp'⟩, m', h5, h4, ?_⟩)
  unfold RepS
  rw [h5]
  exact hr'
/-- a frame by its live slots -/
def mkT : Nat → Nat → List (Nat × AV) → List AV
  | _, 0, _ => []
  | i, n + 1, (j, a) :: r => match j.beq i with
    | true => a :: mkT (i + 1) n r
    | false => .dead :: mkT (i + 1) n ((j, a) :: r)
  | i, n + 1, [] => .dead :: mkT (i + 1) n []
def mkH : Nat → Nat → List (Nat × Blk) → List Ent
  | _, 0, _ => []
  | i, n + 1, (j, a) :: r => match j.beq i with
    | true => ⟨0, some a⟩ :: mkH (i + 1) n r
    | false => ⟨0, none⟩ :: mkH (i + 1) n ((j, a) :: r)
  | i, n + 1, [] => ⟨0, none⟩ :: mkH (i + 1) n []
def mkS (n : Nat) (t : List (Nat × AV)) (h : List (Nat × Blk)) : St := ⟨mkT 0 n t, mkH 0 n h⟩
theorem aSR {id : Nat} {ops : Array Oper} {draw : Bool} {tm : List AV} {hp : List Ent} {y : Code} (h : vcT C ops ops.toList [] tm hp [] [] (fun fs tm hp => (draw = true → indepOk ops fs = true ∧ backOk ops.toList 0 = true) ∧ thenA (AWP C y Q) Q .normal ⟨tm, hp⟩)) : AWP C (.seq (.region id ops draw) y) Q ⟨tm, hp⟩ := aSq (aRg h)
theorem awp_loop {α : Type} {c : Code} (I : α → St) (R : α → Prop) (μ : α → Nat) (x0 : α) (hR : R x0) (h0 : leK s (I x0) True)
    (round : ∀ x, R x → forceK (I x).tm (fun tm => forceK (I x).hp (fun hp => True → AWP C c (thenA (fun s' => ∃ x', R x' ∧ μ x' < μ x ∧ leK s' (I x') True) Q) ⟨tm, hp⟩))) : AWP C (.loop c) Q s := by
  intro w0 X m a w hr
  obtain ⟨g1, _, g2⟩ := leK_ok (C := C) h0
  obtain ⟨m0, hr0⟩ := g2 w0 X m a w hr
  refine wp_loop_ghost (fun n a w => ∃ x m, R x ∧ μ x = n ∧ (I x).tm.length = s.tm.length ∧ RepS C w0 X (I x) m a w) (μ x0) ⟨x0, m0, hR, rfl, g1, hr0⟩ ?_
  rintro n a w ⟨x, m, hRx, rfl, hl, hx⟩
  refine wp_mono (forceK_ok (forceK_ok (round x hRx)) trivial w0 X m a w hx) ?_
  rintro e a' w' ⟨s', m', h1, h2, h3⟩
  cases e with
  | normal =>
    obtain ⟨x', hR', hlt, hle⟩ := h2
    obtain ⟨k1, _, k2⟩ := leK_ok (C := C) hle
    obtain ⟨m2, h4⟩ := k2 w0 X m' a' w' h3
    exact ⟨μ x', hlt, x', m2, hR', rfl, by rw [k1, h1]; exact hl, h4⟩
  | _ => exact ⟨s', m', by rw [h1]; exact hl, h2, h3⟩
end

def nov : Shp := fun _ => (0, none)
abbrev xx0 (O : Nat → Prop) : XX := ⟨fun _ => False, O, fun _ => False, fun _ => none⟩
def mO (O : Nat → Prop) : MM := ⟨fun _ => none, O⟩
theorem owned_nov {O : Nat → Prop} {b : Nat} : Owned nov (mO O) b ↔ O b := by
  constructor
  · rintro (h | ⟨i, h, _⟩)
    · exact h
    · exact absurd rfl h
  · exact .inl
/-- the function, called with these values, returns this value; memory of its callers stays as it is -/
def ACall (C : Cx) (f : FuncId) (args : List AV) (r : AV) : Prop :=
  (∀ (vs : Array Value) (w : World), (callFunc f vs).run C.P w = .ok (.enter f vs) w) ∧
  ∀ (w : World) (O : Nat → Prop) (cargs : Array Value), C.Gl w → C.N ≤ w.heap.size → (∀ b, O b → b < w.heap.size ∧ C.N ≤ b) → cargs.size = args.length → (∀ (j : Nat) (x : AV) (v : Value), args[j]? = some x → cargs[j]? = some v → RV w nov (mO O) x v) →
    Calls C.P f cargs w (fun e w' => ∃ v, e = .returned v ∧ RV w' nov (mO O) r v ∧ Kin w (fun _ => False) w' ∧ C.Gl w')

/-- the results of a function, as the state holds them -/
def resK (C : Cx) (tm : List AV) (hp : List Ent) : List ResultVar → (List AV → Prop) → Prop
  | [], k => k []
  | .tmp t :: r, k => getK tm t (fun a => resK C tm hp r (fun q => k (a :: q)))
  | .cell p t :: r, k => tyK C.T t (fun ti => getK tm p (fun a => match a with
    | .ptr i ver kk j => blkK hp i ver (fun B => ifK (Nat.ble (j + ti.sz) B.sz && !isM B.box B.ty) (elK B kk (fun e => cutK ti e j (fun x => resK C tm hp r (fun q => k (x :: q))))))
    | _ => False))
def oneK : List AV → AV → (List AV → List AV → Prop) → Prop
  | [x], r, k => k [x] [r]
  | xs, .tup rs, k => k xs rs
  | _, _, _ => False
def retK (C : Cx) (rs : List ResultVar) (r : AV) : Exit → St → Prop
  | .normal, s => resK C s.tm s.hp rs (fun xs => oneK xs r (fun xs rs => True → wkT s.hp [] xs rs True))
  | .ret, s => resK C s.tm s.hp rs (fun xs => oneK xs r (fun xs rs => True → wkT s.hp [] xs rs True))
  | _, _ => False

theorem oneK_ok {xs : List AV} {r : AV} {k : List AV → List AV → Prop} (h : oneK xs r k) : (∃ x, xs = [x] ∧ k [x] [r]) ∨ (∃ rs, r = .tup rs ∧ (∀ x, xs ≠ [x]) ∧ k xs rs) := by
  unfold oneK at h
  split at h
  · exact .inl ⟨_, rfl, h⟩
  · rename_i hne
    exact .inr ⟨_, rfl, fun x e => hne x e, h⟩
  · exact h.elim
section
variable {C : Cx} {n : Nat}
theorem load_own {t : TypeId} {ti : TI} {p i ver k j : Nat} {B : Blk} {e : List AV} {τ : Nat → AV} {η : Nat → Ent} {w0 : World} {X : XX} {m : MM} {a : Act} {w : World} (h : Rep C n w0 X τ η m a w) (hx : τ p = .ptr i ver k j) (hi : η i = ⟨ver, some B⟩) (he : B.els[k]? = some e) (ht : TyOk C.P t ti) (h1 : ti.kind.agg = false → ti.sz = 1) (hj : j + ti.sz ≤ B.sz) (hM : isM B.box B.ty = false) :
    ∃ ad v, a.tmps.getD p undef = .pointer (some ad) ∧ (loadVar t ad).run C.P w = .ok v w ∧ RV w (shp η) m (cut ti e j) v := by
  have hv := h.tm p
  rw [hx] at hv
  obtain ⟨b, hb, hu⟩ := rv_ptr hv hi
  obtain ⟨v, h2, h3⟩ := p_load_own (o := ⟨none, .load t (.tmp p), 0, "", #[], none⟩) (x := .tmp p) rfl hx hi he ht h1 hj hM w0 X m a w h
  refine ⟨_, v, hu, ?_, h3⟩
  have hu' : a.eval (.tmp p) = .pointer (some ⟨b, k * B.sz + j, none⟩) := hu
  simp only [execOp, Instr.loadAt, hu', Instr.sureAddr, Sem.run_bind, Sem.run_pure, Result.andThen_ok] at h2
  generalize (loadVar t ⟨b, k * B.sz + j, none⟩).run C.P w = q at h2
  cases q with
  | ok u w' =>
    simp only [Result.andThen_ok] at h2
    injection h2 with h4 h5
    injection h4 with h4
    rw [h4, h5]
  | halt u w' => cases h2
theorem resK_ok {tm : List AV} {hp : List Ent} {w0 : World} {X : XX} {m : MM} {a : Act} {w : World} (h : Rep C tm.length w0 X (tmF tm) (hpF hp) m a w) : ∀ {rs : List ResultVar} {k : List AV → Prop}, resK C tm hp rs k →
    ∃ xs us, k xs ∧ (rs.mapM (fun r => (match r with | .tmp t => pure (a.tmps.getD t undef) | .cell q t => do loadVar t (← asAddr (a.tmps.getD q undef)) : Sem Value)) : Sem (List Value)).run C.P w = .ok us w ∧ xs.length = us.length ∧
      ∀ (j : Nat) (x : AV) (u : Value), xs[j]? = some x → us[j]? = some u → RV w (shp (hpF hp)) m x u
  | [], k, hk => ⟨[], [], hk, by simp, rfl, fun j x u hx => by simp at hx⟩
  | .tmp t :: r, k, hk => by
    obtain ⟨x, hx, hk⟩ := getK_ok hk
    obtain ⟨xs, us, h1, h2, h3, h4⟩ := resK_ok h hk
    have htx : tmF tm t = x := by
      show tm.getD t .dead = x
      rw [List.getD_eq_getElem?_getD, hx]
      rfl
    refine ⟨x :: xs, a.tmps.getD t undef :: us, h1, ?_, by simp [h3], fun j y u hy hu => ?_⟩
    · rw [List.mapM_cons]
      simp only [Sem.run_bind, Sem.run_pure, Result.andThen_ok, h2]
    · cases j with
      | zero =>
        simp only [List.getElem?_cons_zero, Option.some.injEq] at hy hu
        subst hy hu
        rw [← htx]
        exact h.tm t
      | succ j => exact h4 j y u (by simpa using hy) (by simpa using hu)
  | .cell p t :: r, k, hk => by
    obtain ⟨ti, ht, hk⟩ := tyK_ok hk
    obtain ⟨x, hx, hk⟩ := getK_ok hk
    have htx : tmF tm p = x := by
      show tm.getD p .dead = x
      rw [List.getD_eq_getElem?_getD, hx]
      rfl
    split at hk
    · obtain ⟨B, hB, hk⟩ := blkK_ok hk
      obtain ⟨g1, hk⟩ := ifK_ok hk
      rw [Bool.and_eq_true, Bool.not_eq_true'] at g1
      obtain ⟨e, he, _, hk⟩ := elK_ok hk
      obtain ⟨c1, c2, hk⟩ := cutK_ok hk
      obtain ⟨ad, v, q1, q2, q3⟩ := load_own h htx hB he ht c2 (Nat.le_of_ble_eq_true g1.1) g1.2
      obtain ⟨xs, us, h1, h2, h3, h4⟩ := resK_ok h hk
      refine ⟨_ :: xs, v :: us, h1, ?_, by simp [h3], fun j y u hy hu => ?_⟩
      · rw [List.mapM_cons]
        have hA : (asAddr (a.tmps.getD p undef)).run C.P w = .ok ad w := by rw [q1]; rfl
        simp only [Sem.run_bind, hA, Sem.run_pure, Result.andThen_ok, q2, h2]
      · cases j with
        | zero =>
          simp only [List.getElem?_cons_zero, Option.some.injEq] at hy hu
          subst hy hu
          exact q3
        | succ j => exact h4 j y u (by simpa using hy) (by simpa using hu)
    · exact hk.elim

theorem shp_nil : shp (hpF []) = nov := by
  funext i
  simp [shp, nov]
theorem mwk_nil (η : Nat → Ent) (m : MM) : mwk η (hpF []) m = mO m.O := by
  unfold mwk mO
  congr 1
  funext i
  simp
theorem aOf {f : FuncId} {fn : Func} {c : Code} {args : List AV} {r : AV} (hf : C.P.funcs[f]? = some fn) (hb : fn.body = some c) (hname : (fn.name == "runtime.NumGoroutine") = false) (hn : fn.ntmps = n) (_ha : args.length ≤ n)
    (h : forceK (args ++ List.replicate (n - args.length) .dead) (fun tm => forceK (List.replicate n ⟨0, none⟩) (fun hp => True → AWP C c (retK C fn.results.toList r) ⟨tm, hp⟩))) (hP : ∀ (w : World) (O : Nat → Prop), C.Pw w (xx0 O) := by exact fun _ _ => trivial) : ACall C f args r := by
  have h := forceK_ok (forceK_ok h) trivial
  refine ⟨fun vs w => ?_, fun w O cargs hg hN hO hsz hargs => ?_⟩
  · simp only [callFunc, Sem.run_bind, program, Sem.run, Result.andThen_ok, hf, hname, hb]
    rfl
  have hη : ∀ i, hpF (List.replicate n ⟨0, none⟩) i = ⟨0, none⟩ := fun i => by
    show (List.replicate n (⟨0, none⟩ : Ent)).getD i _ = _
    rw [List.getD_eq_getElem?_getD, List.getElem?_replicate]
    split <;> rfl
  have hηf : hpF (List.replicate n ⟨0, none⟩) = fun _ => ⟨0, none⟩ := funext hη
  have hshp : shp (hpF (List.replicate n ⟨0, none⟩)) = nov := by rw [hηf]; rfl
  have hrep : RepS C w (xx0 O) ⟨args ++ List.replicate (n - args.length) .dead, List.replicate n ⟨0, none⟩⟩ (mO O) { tmps := cargs ++ Array.replicate (fn.ntmps - cargs.size) undef, defers := [] } w := by
    refine ⟨fun t => ?_, by simp [hn, hsz], rfl, ⟨fun i B hB => ?_, fun i i' b hl => ?_, fun i b hl => ?_, fun i b hl => ?_, hO, hN⟩, ⟨rfl, rfl, rfl, Nat.le_refl _, fun _ _ _ => rfl⟩, rfl, fun i b hl => ?_, hg, fun i hi => hi.elim, hP w O⟩
    · rw [hshp]
      show RV w nov (mO O) ((args ++ List.replicate (n - args.length) AV.dead).getD t .dead) _
      rcases Nat.lt_or_ge t args.length with hlt | hge
      · rw [List.getD_eq_getElem?_getD, List.getElem?_append_left hlt, List.getElem?_eq_getElem hlt]
        have hc : t < cargs.size := by omega
        refine hargs t _ _ (List.getElem?_eq_getElem hlt) ?_
        rw [Array.getD_eq_getD_getElem?, Array.getElem?_append_left hc, Array.getElem?_eq_getElem hc]
        rfl
      · have : (args ++ List.replicate (n - args.length) AV.dead).getD t .dead = .dead := by
          rw [List.getD_eq_getElem?_getD, List.getElem?_append_right hge, List.getElem?_replicate]
          split <;> rfl
        rw [this]
        exact .dead _
    all_goals (simp only [hη] at *; first | (exact absurd rfl hl) | (cases hB))
  refine calls_of_wp hf hb (wp_mono (h w _ (mO O) _ w hrep) ?_)
  rintro e a' w' ⟨s', m', hl, hq, hr'⟩
  have fin : resK C s'.tm s'.hp fn.results.toList (fun xs => oneK xs r (fun xs rs => True → wkT s'.hp [] xs rs True)) → a'.defers = [] ∧ ∃ v, (results fn a'.tmps).run C.P w' = .ok v w' ∧ ∃ u, Ending.returned v = .returned u ∧ RV w' nov (mO O) r u ∧ Kin w (fun _ => False) w' ∧ C.Gl w' := by
    intro hk
    obtain ⟨xs, us, h1, h2, h3, h4⟩ := resK_ok hr' hk
    refine ⟨hr'.df, ?_⟩
    have hO' : m'.O = O := hr'.oo
    have hfin : ∀ (ys : List AV), wkT s'.hp [] xs ys True → xs.length = ys.length ∧ ∀ (j : Nat) (y : AV) (u : Value), ys[j]? = some y → us[j]? = some u → RV w' nov (mO O) y u := by
      intro ys hw
      obtain ⟨g1, g2, _⟩ := wkT_ok (N := C.N) hw
      refine ⟨g1, fun j y u hy hu => ?_⟩
      have hlt : j < xs.length := by rw [g1]; exact (List.getElem?_eq_some_iff.1 hy).1
      have := g2 j _ y (List.getElem?_eq_getElem hlt) hy w' m' u hr'.mem (h4 j _ u (List.getElem?_eq_getElem hlt) hu)
      rw [shp_nil, mwk_nil, hO'] at this
      exact this
    have hrun : (results fn a'.tmps).run C.P w' = .ok (if h : us.toArray.size = 1 then us.toArray[0] else .tuple us.toArray) w' := by
      unfold results
      rw [Array.mapM_eq_mapM_toList, map_eq_pure_bind]
      simp only [Sem.run_bind]
      erw [h2]
      simp
    refine ⟨_, hrun, _, rfl, ?_, hr'.kin, hr'.gl⟩
    rcases oneK_ok h1 with ⟨x, rfl, h1⟩ | ⟨rs, rfl, hne, h1⟩
    · obtain ⟨g1, g2⟩ := hfin [r] (h1 trivial)
      have hus : us.length = 1 := by simpa using h3.symm
      obtain ⟨u, rfl⟩ := List.length_eq_one_iff.1 hus
      simpa using g2 0 r u rfl rfl
    · obtain ⟨g1, g2⟩ := hfin rs (h1 trivial)
      have hus : us.length ≠ 1 := fun e => by
        obtain ⟨x, rfl⟩ := List.length_eq_one_iff.1 (show xs.length = 1 by omega)
        exact hne x rfl
      rw [dif_neg (by simpa using hus)]
      refine .tup (by simp; omega) (fun j x u hx hu => g2 j x u hx (by simpa using hu))
  cases e with
  | normal => exact fin hq
  | ret => exact fin hq
  | _ => exact hq.elim

/-- a value without handles of the call's own, as far as its head shows -/
def fr0 : AV → Prop
  | .c _ => True
  | .sl _ _ => True
  | x => Fr x
def frs0 : List AV → Prop
  | [] => True
  | x :: r => fr0 x ∧ frs0 r
def fr1 : AV → Prop
  | .agg cs => frs0 cs
  | .tup cs => frs0 cs
  | x => fr0 x
def frs : List AV → Prop
  | [] => True
  | x :: r => fr1 x ∧ frs r
theorem rv_fr0 {w : World} {vs vs' : Shp} {m m' : MM} {x : AV} {v : Value} (hx : fr0 x) (ho : ∀ b, Owned vs' m' b → Owned vs m b) (h : RV w vs m x v) : RV w vs' m' x v := by
  unfold fr0 at hx
  split at hx
  · exact rv_fr (.c _) ho h
  · have := h
    obtain ⟨_, _, _, _, _, _, _, _, _, _, _, _, hfr⟩ := rv_sl this
    exact rv_fr (.sl hfr) ho h
  · exact rv_fr hx ho h
theorem frs0_at : ∀ {l : List AV} {j : Nat} {x : AV}, frs0 l → l[j]? = some x → fr0 x
  | [], _, _, _, h => by simp at h
  | y :: r, 0, x, h, hx => by simp at hx; subst hx; exact h.1
  | y :: r, j + 1, x, h, hx => frs0_at (l := r) (j := j) h.2 (by simpa using hx)
theorem frs_at : ∀ {l : List AV} {j : Nat} {x : AV}, frs l → l[j]? = some x → fr1 x
  | [], _, _, _, h => by simp at h
  | y :: r, 0, x, h, hx => by simp at hx; subst hx; exact h.1
  | y :: r, j + 1, x, h, hx => frs_at (l := r) (j := j) h.2 (by simpa using hx)
theorem rv_fr1 {w : World} {vs vs' : Shp} {m m' : MM} {x : AV} {v : Value} (hx : fr1 x) (ho : ∀ b, Owned vs' m' b → Owned vs m b) (h : RV w vs m x v) : RV w vs' m' x v := by
  unfold fr1 at hx
  split at hx
  · obtain ⟨us, rfl, h1, h2⟩ := rv_agg h
    exact .agg h1 (fun j y u hy hu => rv_fr0 (frs0_at hx hy) ho (h2 j y u hy hu))
  · obtain ⟨us, rfl, h1, h2⟩ := rv_tup h
    exact .tup h1 (fun j y u hy hu => rv_fr0 (frs0_at hx hy) ho (h2 j y u hy hu))
  · exact rv_fr0 hx ho h

/-- a call of a function, by its contract -/
theorem lf_call {o : Oper} {τ : Nat → AV} {η : Nat → Ent} {f : FuncId} {os : Array Operand} {ats : Array TypeId} {r : AV} {args : List AV} (ho : o.op = .call ⟨.value (.func f), os, ats⟩) (hd : InB n o.dst) (hargs : os.toList.map (evA τ) = args) (hc : ACall C f args r) (hfr : frs args) (hr : fr1 r) : LF C n o τ η ⟨r, [], []⟩ := by
  subst hargs
  intro τ' η' hτ _ w0 X m a w h
  obtain ⟨hen, hcall⟩ := hc
  have hmap : os.toList.map (evA τ') = os.toList.map (evA τ) := List.map_congr_left (fun y hy => hτ y (by simp [ho, Op.operands, Call.operands]; exact .inr (by simpa using hy)))
  have hrun : (execOp a.eval o).run C.P w = .ok (.enter f (os.map a.eval)) w := by
    simp [execOp, ho, resolve, Act.eval, Deferred.ofValue, invoke, hen]
  have hO : ∀ b, Owned (shp η') m b → b < w.heap.size ∧ C.N ≤ b := by
    rintro b (h1 | ⟨i, h1, h2⟩)
    · exact h.mem.olt b h1
    · exact ⟨h.mem.lt (blk_live.1 h1) h2, h.mem.low i b (blk_live.1 h1) h2⟩
  have := hcall w (Owned (shp η') m) (os.map a.eval) h.gl h.mem.big hO (by simp) (fun j x v hx hv => by
    refine rv_fr1 (frs_at hfr hx) (fun b hb => owned_nov.1 hb) ?_ (vs := shp η') (m := m)
    rw [← hmap, List.getElem?_map] at hx
    rw [Array.getElem?_map] at hv
    cases hj : os[j]? with
    | none => rw [hj] at hv; cases hv
    | some q =>
      have hj' : os.toList[j]? = some q := by simpa using hj
      rw [hj'] at hx
      rw [hj] at hv
      simp at hx hv
      rw [← hx, ← hv]
      exact h.ev q)
  unfold Oper.wp
  rw [hrun]
  refine Calls.mono this ?_
  rintro e w' ⟨v, rfl, h1, h2, h3⟩
  have hm : Mono w (shp η') m w' (shp η') m := by
    refine ⟨h2.size, fun b hb _ => h2.block b hb (by simp), fun _ _ h => h, fun _ => Nat.le_refl _, fun i _ => ⟨rfl, fun hl => ⟨rfl, fun b hb => ?_⟩⟩⟩
    unfold World.shape?
    rw [h2.block b (h.mem.lt (blk_live.1 hl) hb) (by simp)]
  have hmem : Mem C.N w' η' m := ⟨fun i B hB => (h.mem.ok i B hB).mono hm (fun b hb => h2.block b (h.mem.lt (by rw [hB]; simp) hb) (by simp)), h.mem.inj, h.mem.low, h.mem.sep, fun b hb => ⟨Nat.lt_of_lt_of_le (h.mem.olt b hb).1 h2.size, (h.mem.olt b hb).2⟩, Nat.le_trans h.mem.big h2.size⟩
  have hkin : Kin w0 X.X w' := ⟨h2.os.trans h.kin.os, h2.tape.trans h.kin.tape, h2.output.trans h.kin.output, Nat.le_trans h.kin.size h2.size, fun b hb hx => by rw [h2.block b (Nat.lt_of_lt_of_le hb h.kin.size) (by simp), h.kin.block b hb hx]⟩
  exact ⟨m, (h.move hm hmem hkin rfl h.own (fun _ _ => rfl)).put hd (rv_fr1 hr (fun b hb => owned_nov.2 hb) h1)⟩
end
attribute [irreducible] AWP
end Go.Proofs.YtflgpccacloadaaDoor.Am
/- Opening arguments: slices of numbers, of facts, of nogoods, a certificate. -/
namespace Go.Proofs.YtflgpccacloadaaDoor
open Go.RowKit Go.ChangeShapes Go.WideShapes Go.Deep Go.Joins

def I64 (x : Int) : Prop := -9223372036854775808 ≤ x ∧ x ≤ 9223372036854775807
theorem I64.of {x : Int} (h : (Lit.int .i64 x).wf = true) : I64 x := by
  have := bounds_i64 h
  exact this

section
variable {H : Type} {enc : TypeId × Value → H} {P : Program} {w : World} {base : Nat} {spare : Nat → Bool} {held : Bool}

/-- within the form's reach -/
def Sized (P : Program) (t : TypeId) (d : DataW H) : Prop := ∀ n ∈ d.weights P t, n ≤ reachBytes
theorem sized_arg {ts : List TypeId} {ds : List (DataW H)} (h : (DataW.weightsEach P ts ds).all (· ≤ reachBytes) = true) {j : Nat} {t : TypeId} {d : DataW H} (ht : ts[j]? = some t) (hd : ds[j]? = some d) : Sized P t d :=
  fun n hn => of_decide_eq_true (List.all_eq_true.1 h n (DataW.weights_mem_each ht hd n hn))
theorem weightsAll_mem {e : TypeId} : ∀ {l : List (DataW H)} {d : DataW H}, d ∈ l → ∀ n ∈ d.weights P e, n ∈ DataW.weightsAll P e l
  | x :: l, d, hd, n, hn => by
    simp only [DataW.weightsAll, List.mem_append]
    rcases List.mem_cons.1 hd with rfl | h
    · exact Or.inl hn
    · exact Or.inr (weightsAll_mem h n hn)
theorem sized_elem {t e : TypeId} {elems sp : List (DataW H)} (h : Sized P t (.slice elems sp)) (hu : P.underlying t = some (.slice e)) {d : DataW H} (hd : d ∈ elems) : Sized P e d :=
  fun n hn => h n (by
    simp only [DataW.weights, hu, List.mem_cons, List.mem_append]
    exact Or.inr (Or.inl (weightsAll_mem hd n hn)))
theorem sized_len {t e : TypeId} {elems sp : List (DataW H)} (h : Sized P t (.slice elems sp)) (hu : P.underlying t = some (.slice e)) : elems.length * P.bytesOf e ≤ 140737488355328 := by
  have h1 := h ((elems.length + sp.length) * P.bytesOf e) (by simp [DataW.weights, hu])
  have h2 : elems.length * P.bytesOf e ≤ (elems.length + sp.length) * P.bytesOf e := Nat.mul_le_mul_right _ (by omega)
  have h3 : reachBytes ≤ 140737488355328 := by decide
  omega

end

theorem spot_of_cell {w : World} {p : Addr} {v : Value} (h : w.cell? p = some v) : p.spot = none := by
  unfold World.cell? at h
  split at h
  · split at h
    · cases h
    · rename_i hs; simpa using hs
  · cases h
theorem addr_of_cell {w : World} {a : Addr} {k : Nat} {v : Value} (h0 : ∃ u, w.cell? (a.add 0) = some u) (h : w.cell? (a.add k) = some v) : a = ⟨a.block, a.off, none⟩ ∧ w.cell? ⟨a.block, a.off + k, none⟩ = some v := by
  obtain ⟨u, hu⟩ := h0
  have hs := spot_of_cell hu
  obtain ⟨b, off, sp⟩ := a
  simp [Addr.add] at hs
  subst hs
  refine ⟨rfl, ?_⟩
  rw [← h]
  congr 1
  unfold Addr.add
  split
  · subst k; rfl
  · rfl

theorem list_of {α : Type} (n : Nat) (R : Nat → α → Prop) (h : ∀ i, i < n → ∃ x, R i x) : ∃ l : List α, l.length = n ∧ ∀ k x, l[k]? = some x → R k x := by
  induction n with
  | zero => exact ⟨[], rfl, fun k x hx => by simp at hx⟩
  | succ n ih =>
    obtain ⟨l, hl, hr⟩ := ih (fun i hi => h i (by omega))
    obtain ⟨x, hx⟩ := h n (by omega)
    refine ⟨l ++ [x], by simp [hl], fun k y hy => ?_⟩
    by_cases hk : k < n
    · rw [List.getElem?_append_left (by omega)] at hy
      exact hr k y hy
    · rw [List.getElem?_append_right (by omega)] at hy
      have hk' : k - l.length = 0 := by
        have := (List.getElem?_eq_some_iff.1 hy).1
        simp at this
        omega
      rw [hk'] at hy
      simp at hy
      subst hy
      obtain rfl : k = n := by omega
      exact hx

end Go.Proofs.YtflgpccacloadaaDoor
/- Opening arguments for the abstract machine: readers that compose. -/
namespace Go.Proofs.YtflgpccacloadaaDoor.Am
open Go.RowKit Go.ChangeShapes Go.WideShapes Go.Deep Go.Joins

/-- nothing is owned at the start -/
abbrev mZ : MM := mO (fun _ => False)
theorem noZ (b : Nat) : ¬ Owned nov mZ b := fun h => owned_nov.1 h

section
variable {H : Type} {enc : TypeId × Value → H} {P : Program} {w : World} {base : Nat} {spare : Nat → Bool} {held : Bool}
/-- cells that stand for the values -/
def CellsRv (w : World) (es : List AV) (cs : List Value) : Prop := es.length = cs.length ∧ (∀ (j : Nat) (y : AV) (u : Value), es[j]? = some y → cs[j]? = some u → RV w nov mZ y u ∧ u.oneCell' = true) ∧ ∀ y ∈ es, Fr y
theorem cells_one1 {y : AV} {u : Value} (h : RV w nov mZ y u) (h1 : u.oneCell' = true) (hf : Fr y) : CellsRv w [y] [u] := by
  refine ⟨rfl, fun j z v hz hv => ?_, fun z hz => by simp at hz; subst hz; exact hf⟩
  cases j with
  | zero => simp at hz hv; subst hz hv; exact ⟨h, h1⟩
  | succ j => simp at hz
theorem cells_append {a b : List AV} {xs ys : List Value} (h1 : CellsRv w a xs) (h2 : CellsRv w b ys) : CellsRv w (a ++ b) (xs ++ ys) := by
  refine ⟨by rw [List.length_append, List.length_append, h1.1, h2.1], fun j y u hy hu => ?_, fun y hy => ?_⟩
  · rcases Nat.lt_or_ge j a.length with hlt | hge
    · rw [List.getElem?_append_left hlt] at hy
      rw [List.getElem?_append_left (by rw [← h1.1]; exact hlt)] at hu
      exact h1.2.1 j y u hy hu
    · rw [List.getElem?_append_right hge] at hy
      rw [List.getElem?_append_right (by rw [← h1.1]; exact hge)] at hu
      rw [h1.1] at hy
      exact h2.2.1 _ y u hy hu
  · rcases List.mem_append.1 hy with h | h
    · exact h1.2.2 y h
    · exact h2.2.2 y h
theorem one_rv {y : AV} {u : Value} (h : CellsRv w [y] [u]) : RV w nov mZ y u := (h.2.1 0 y u rfl rfl).1
end
end Go.Proofs.YtflgpccacloadaaDoor.Am
/- Opening arguments for the abstract machine, with a bound on their bulk. -/
namespace Go.Proofs.YtflgpccacloadaaDoor.Am
open Go.RowKit Go.ChangeShapes Go.WideShapes Go.Deep Go.Joins

theorem bulk_one {H : Type} (d : DataW H) : 1 ≤ Rows.uptoBulk d := by
  cases d with
  | lit l => cases l <;> simp [Rows.uptoBulk]
  | nil => simp [Rows.uptoBulk]
  | ptr d => simp [Rows.uptoBulk]
  | slice elems spare => simp [Rows.uptoBulk]
  | agg parts => simp [Rows.uptoBulk]
  | iface t d => simp [Rows.uptoBulk]
  | map entries => simp [Rows.uptoBulk]
  | held h => simp [Rows.uptoBulk]
theorem sum_bulk {H : Type} {α : Type} {wt : α → Nat} : ∀ (l : List α) (e : List (DataW H)), l.length = e.length → (∀ (k : Nat) (z : α) (d : DataW H), l[k]? = some z → e[k]? = some d → wt z ≤ Rows.uptoBulk d) → (l.map wt).sum ≤ Rows.uptoBulkAll e
  | [], [], _, _ => by simp
  | z :: l, d :: e, hl, h => by
    have h0 := h 0 z d rfl rfl
    have h1 := sum_bulk l e (by simpa using hl) (fun k y c hy hc => h (k + 1) y c (by simpa using hy) (by simpa using hc))
    simp only [List.map_cons, List.sum_cons, Rows.uptoBulkAll]
    omega
  | [], _ :: _, hl, _ => by simp at hl
  | _ :: _, [], hl, _ => by simp at hl
section
variable {H : Type} {enc : TypeId × Value → H} {P : Program} {w : World} {base : Nat} {spare : Nat → Bool} {held : Bool}
/-- data of type t read as an α, of a weight -/
def OpensB (enc : TypeId × Value → H) (P : Program) (w : World) (base : Nat) (spare : Nat → Bool) (held : Bool) (t : TypeId) {α : Type} (en : α → List AV) (R : α → Prop) (wt : α → Nat) : Prop :=
  ∀ (fuel : Nat) (cs : List Value) (x : DataW H × List MemPlace), DataW.trod enc P w base spare held fuel t cs = some x → Sized P t x.1 → ∃ a, R a ∧ wt a ≤ Rows.uptoBulk x.1 ∧ CellsRv w (en a) cs
theorem opensB_slice {t e : TypeId} {α : Type} {en : α → List AV} {R : α → Prop} {wt : α → Nat} {sz by_ : Nat} (ht : P.underlying t = some (.slice e)) (hc : P.cellsOf e = sz) (hb : P.bytesOf e = by_) (hby : 0 < by_) (hsz : 0 < sz) (he : OpensB enc P w base spare held e en R wt) :
    OpensB enc P w base spare held t (fun l : List α => [.sl sz (l.map en)]) (fun l => l.length * by_ ≤ 140737488355328 ∧ ∀ x ∈ l, R x) (fun l => (l.map wt).sum + 1) := by
  intro fuel cs x h hs
  rcases open_slice ht h with ⟨rfl, _⟩ | ⟨a, len, cap, m, n, D, Pl, rfl, _, hl, hm, hmm, rfl, hi⟩
  · refine ⟨[], ⟨by simp, by simp⟩, by simpa using bulk_one _, cells_one1 ?_ rfl (.sl (fun e he => by cases he))⟩
    exact RV.sl (l := []) (b := 0) (off := 0) (f := fun _ _ => undef) (fun h => absurd rfl h) (Nat.zero_le _) (by simp) (fun k e h => by simp at h) (fun k j e x h => by simp at h) (fun k j e x h => by simp at h) (fun e he => by cases he)
  · have hlen := sized_len hs ht
    rw [hb] at hlen
    simp only [List.length_map, List.length_range] at hlen
    have hml : len ≤ m := by rw [hmm]; split <;> omega
    have hcell : ∀ i, i < len → ∃ z : α, (R z ∧ wt z ≤ Rows.uptoBulk (D i)) ∧ ∃ cs', CellsRv w (en z) cs' ∧ cs'.length = sz ∧ ∀ j, j < sz → w.cell? (a.add (i * sz + j)) = cs'[j]? := by
      intro i hi'
      obtain ⟨cs', hcc, ht'⟩ := hi i (by omega)
      rw [hc] at hcc
      obtain ⟨z, hz, hwz, hcr⟩ := he n cs' _ ht' (sized_elem hs ht (List.mem_map.2 ⟨i, by simpa using hi', rfl⟩))
      obtain ⟨_, hcl', hat⟩ := World.cells?_some hcc
      exact ⟨z, ⟨hz, hwz⟩, cs', hcr, hcl', fun j hj => by rw [← hat j hj, Go.Deep.add_add]⟩
    obtain ⟨l, hl', hat⟩ := list_of len _ hcell
    have hR : ∀ x ∈ l, R x := fun x hx => by
      obtain ⟨k, hk⟩ := List.getElem?_of_mem hx
      exact (hat k x hk).1.1
    have hfr : FrL (l.map en) := by
      intro e he
      obtain ⟨x, hx, rfl⟩ := List.mem_map.1 he
      obtain ⟨k, hk⟩ := List.getElem?_of_mem hx
      obtain ⟨_, cs', hcr, _⟩ := hat k x hk
      exact hcr.2.2
    refine ⟨l, ⟨by rw [hl']; exact hlen, hR⟩, ?_, cells_one1 ?_ rfl (.sl hfr)⟩
    · have hb1 := sum_bulk (wt := wt) l ((List.range len).map D) (by simp [hl']) (fun k z d hz hd => by
        rw [List.getElem?_map] at hd
        have hk : k < len := by rw [← hl']; exact (List.getElem?_eq_some_iff.1 hz).1
        rw [List.getElem?_range hk] at hd
        injection hd with hd
        rw [← hd]
        exact (hat k z hz).1.2)
      simp only [Rows.uptoBulk]
      omega
    have key : ∀ (k j : Nat) (e : List AV) (y : AV), (l.map en)[k]? = some e → e[j]? = some y → e.length = sz ∧ ∃ u, w.cell? ⟨a.block, a.off + (k * sz + j), none⟩ = some u ∧ u.oneCell' = true ∧ RV w nov mZ y u ∧ a = ⟨a.block, a.off, none⟩ ∧ a.block < w.heap.size := by
      intro k j e y hk hj
      rw [List.getElem?_map] at hk
      cases hx : l[k]? with
      | none => rw [hx] at hk; cases hk
      | some z =>
        rw [hx] at hk
        simp at hk
        subst hk
        obtain ⟨_, cs', ⟨c1, c2, _⟩, c4, c5⟩ := hat k z hx
        have hjl : j < sz := by rw [← c4, ← c1]; exact (List.getElem?_eq_some_iff.1 hj).1
        have hcj := c5 j hjl
        have hget : cs'[j]? = some (cs'[j]'(by omega)) := List.getElem?_eq_getElem _
        rw [hget] at hcj
        obtain ⟨r1, r2⟩ := c2 j y _ hj hget
        have h0 : 0 < len := by have := (List.getElem?_eq_some_iff.1 hx).1; omega
        obtain ⟨_, _, cs0, ⟨_, _, _⟩, d4, d5⟩ := hcell 0 h0
        have hz0 := d5 0 hsz
        rw [List.getElem?_eq_getElem (by omega)] at hz0
        obtain ⟨e1, e2⟩ := addr_of_cell ⟨_, by simpa using hz0⟩ hcj
        exact ⟨by rw [c1, c4], _, e2, r2, r1, e1, lt_of_cell (p := ⟨a.block, a.off + (k * sz + j), none⟩) e2⟩
    have hlen2 : (l.map en).length = len := by simp [hl']
    have := RV.sl (w := w) (vs := nov) (m := mZ) (sz := sz) (l := l.map en) (A := some a) (cap := cap) (b := a.block) (off := a.off) (f := fun k j => (w.cell? ⟨a.block, a.off + (k * sz + j), none⟩).getD undef)
      (fun hne => ?_) (by omega) (by rw [hlen2]; exact Nat.le_trans (Nat.le_mul_of_pos_right _ hby) hlen) (fun k e hk => ?_) (fun k j e y hk hj => ?_) (fun k j e y hk hj => ?_) hfr
    · rw [hlen2] at this
      exact this
    · have h0 : 0 < (l.map en).length := List.length_pos_iff.2 hne
      have hk := List.getElem?_eq_getElem h0
      obtain ⟨x0, hx0, hx0'⟩ : ∃ x0, l[0]? = some x0 ∧ (l.map en)[0] = en x0 := by
        have h1 : 0 < l.length := by simpa using h0
        exact ⟨l[0], List.getElem?_eq_getElem h1, by simp⟩
      obtain ⟨_, cs', ⟨c1, _, _⟩, c4, _⟩ := hat 0 x0 hx0
      have hel : 0 < ((l.map en)[0]).length := by rw [hx0', c1, c4]; exact hsz
      obtain ⟨_, _, _, _, _, q1, q2⟩ := key 0 0 _ _ hk (List.getElem?_eq_getElem hel)
      exact ⟨by rw [← q1], noZ _, q2⟩
    · rw [List.getElem?_map] at hk
      cases hx : l[k]? with
      | none => rw [hx] at hk; cases hk
      | some z =>
        rw [hx] at hk
        simp at hk
        subst hk
        obtain ⟨_, cs', ⟨c1, _, _⟩, c4, _⟩ := hat k z hx
        rw [c1, c4]
    · obtain ⟨_, u, q1, q2, _⟩ := key k j e y hk hj
      rw [q1]
      exact ⟨rfl, q2⟩
    · obtain ⟨_, u, q1, _, q3, _⟩ := key k j e y hk hj
      rw [q1]
      exact q3

/-- an argument of one cell -/
theorem arg_oneB {t : TypeId} {α : Type} {y : α → AV} {R : α → Prop} {wt : α → Nat} {v : Value} {d : DataW H} {p : List MemPlace} (hv : v.cells = #[v]) (ho : OpensB enc P w base spare held t (fun a => [y a]) R wt) (h : DataW.Trod enc P w base spare held t v d p) (hs : Sized P t d) :
    ∃ a, R a ∧ wt a ≤ Rows.uptoBulk d ∧ RV w nov mZ (y a) v := by
  obtain ⟨fuel, hf⟩ := h
  rw [hv] at hf
  obtain ⟨a, ha, hw, hc⟩ := ho fuel _ _ hf hs
  exact ⟨a, ha, hw, one_rv hc⟩
end
end Go.Proofs.YtflgpccacloadaaDoor.Am
/- From a walk to a law's row: the arguments read behind the call as before, the result is true. -/
namespace Go.Proofs.YtflgpccacloadaaDoor
open Go.RowKit Go.WideShapes Go.ChangeShapes Go.ChangeAt
section
variable {H : Type} {enc : TypeId × Value → H} {P : Program}
theorem post_of_below {f : Func} {s : ChangeSpec} {apart fresh handsOn again : Bool} {W W' : World} {args : Array Value} {v : Value} {ds gs : List (DataW H)} {before pa pv : List MemPlace}
    (hW : DataW.Whole enc P f.params.toList s.vars apart W args.toList ds gs before)
    (hres : ∀ (b : Nat) (sp : Nat → Bool) (hd : Bool), DataW.TrodAll enc P W' b sp hd f.resultTypes.toList (v.resultList f.resultTypes.size) (s.fn H (ds ++ gs)).results [])
    (hargs : ∀ sp : Nat → Bool, (∀ p ∈ before, sp p.block = true) → DataW.TrodAll enc P W' 0 sp true f.params.toList args.toList (s.fn H (ds ++ gs)).args pa)
    (hvars : ∀ sp : Nat → Bool, (∀ p ∈ before, sp p.block = true) → DataW.TrodVars enc P W' sp s.vars (s.fn H (ds ++ gs)).vars pv)
    (hps : before = pa ++ pv) (hb : Below W.heap.size W W')
    (hok : ∀ (j : Nat) (t : TypeId) (r : Value), f.resultTypes[j]? = some t → (v.resultList f.resultTypes.size)[j]? = some r → Value.okWide P W' .any 0 t r) :
    s.post enc P f apart fresh handsOn again W args v W' := by
  have hlt : ∀ p ∈ before, p.block < W.heap.size := fun p hp => hW.lt p hp
  have hold : ∀ p ∈ before, (fun b => decide (b < W.heap.size)) p.block = true := fun p hp => by simpa using hlt p hp
  refine ⟨ds, gs, before, [], pa, pv, hW, hres _ _ _, hargs _ hold, hvars _ hold, World.keptBut_mono (fun p hp => ⟨hp, ?_⟩) (hb.frame (· ∈ before)), fun _ => ?_⟩
  · rw [hps, List.mem_append] at hp
    exact Or.inr hp
  · obtain ⟨_, _, _, _, _, hz, hn⟩ := hW
    refine ⟨hok, _, _, ([] ++ pa) ++ pv, ⟨[] ++ pa, pv, trodAll_append (hargs _ (fun _ _ => rfl)) (hres _ _ _), hvars _ (fun _ _ => rfl), rfl, ?_, ?_⟩, ?_⟩
    · intro b off hp
      have hin : MemPlace.cell b off ∈ before := by rw [hps]; simpa using hp
      rw [hb.frozen (hlt _ hin)]
      exact hz b off hin
    · intro ha
      have := hn ha
      rw [hps] at this
      simpa using this
    · intro p hp _
      rw [hps]
      simpa using hp

theorem trodAll_keep (hl : laidOutB P = true) {W W' : World} (hb : Below W.heap.size W W') (sp : Nat → Bool) (ts : List TypeId) : ∀ (vs : List Value) (ds : List (DataW H)) (ps : List MemPlace), (∀ t ∈ ts, P.readableRec t = true ∧ t < P.types.size) →
    DataW.TrodAll enc P W 0 (fun _ => true) true ts vs ds ps → (∀ x ∈ ps, x.block < W.heap.size) → (∀ x ∈ ps, sp x.block = true) → DataW.TrodAll enc P W' 0 sp true ts vs ds ps := by
  induction ts with
  | nil =>
    intro vs ds ps _ h _ _
    obtain ⟨rfl, rfl, rfl⟩ := trodAll_nil h
    exact trodAll_mk0
  | cons t ts ih =>
    intro vs ds ps hts h hlt hsp
    obtain ⟨v0, vs0, d0, ds0, p0, q0, rfl, rfl, rfl, h0, r0⟩ := trodAll_cons h
    obtain ⟨hr, hrow⟩ := hts t (by simp)
    exact trodAll_cons_mk (WideElems.Trod_stays hl hr hrow h0 (fun x hx => hb.same (hlt x (by simp [hx]))) (fun x hx => hsp x (by simp [hx])))
      (ih _ _ _ (fun t ht => hts t (by simp [ht])) r0 (fun x hx => hlt x (by simp [hx])) (fun x hx => hsp x (by simp [hx])))

/-- A LAW: it returned true, nothing that was there has turned. -/
theorem law_post (hl : laidOutB P = true) {f : Func} {s : ChangeSpec} {T : TypeId} {W W' : World} {args : Array Value} {ds : List (DataW H)} {before : List MemPlace}
    (hvars : s.vars = []) (hrt : f.resultTypes = #[T]) (hT : P.underlying T = some .bool) (hts : f.params.toList.all (fun t => P.readableRec t && decide (t < P.types.size)) = true)
    (hW : DataW.Whole enc P f.params.toList s.vars false W args.toList ds [] before) (hA : DataW.TrodAll enc P W 0 (fun _ => true) true f.params.toList args.toList ds before)
    (e1 : (s.fn H (ds ++ [])).results = [.lit (.bool true)]) (e2 : (s.fn H (ds ++ [])).args = ds) (e3 : (s.fn H (ds ++ [])).vars = []) (hb : Below W.heap.size W W') :
    s.post enc P f false true false false W args (.bool true) W' := by
  have hlt : ∀ x ∈ before, x.block < W.heap.size := fun x hx => hW.lt x hx
  refine post_of_below (pa := before) (pv := []) hW ?_ ?_ ?_ (by simp) hb ?_
  · intro b sp hd
    rw [e1, hrt]
    exact trodAll_cons_mk (shut_bool hT true) trodAll_mk0
  · intro sp hsp
    rw [e2]
    exact trodAll_keep hl hb sp _ _ _ _ (fun t ht => by simpa using List.all_eq_true.1 hts t ht) hA hlt hsp
  · intro sp hsp
    rw [e3, hvars]
    rfl
  · exact ok_one hrt rfl (okWide_bool_mk hT true)
end
end Go.Proofs.YtflgpccacloadaaDoor
/- What the abstract machine knows of the types of the program. -/
namespace Go.Proofs.YtflgpccacloadaaDoor.Am
open Go.RowKit

theorem ty_1 : TyOk Tryd.prog 1 ⟨1, 8, .nilFunc, .other⟩ := ⟨by kernel_rfl, ⟨_, Tryd.underlying1, (fun h => h)⟩, rfl⟩
theorem ty_2 : TyOk Tryd.prog 2 ⟨1, 8, .int .i64 0, .int .i64⟩ := ⟨by kernel_rfl, ⟨_, Tryd.underlying2, rfl⟩, rfl⟩
theorem ty_3 : TyOk Tryd.prog 3 ⟨1, 8, .int .i64 0, .int .i64⟩ := ⟨by kernel_rfl, ⟨_, Tryd.underlying3, rfl⟩, rfl⟩
theorem ty_4 : TyOk Tryd.prog 4 ⟨1, 1, .bool false, .bool⟩ := ⟨by kernel_rfl, ⟨_, Tryd.underlying4, trivial⟩, rfl⟩
theorem ty_5 : TyOk Tryd.prog 5 ⟨1, 1, .int .u8 0, .int .u8⟩ := ⟨by kernel_rfl, ⟨_, Tryd.underlying5, rfl⟩, rfl⟩
theorem ty_6 : TyOk Tryd.prog 6 ⟨1, 1, .int .u8 0, .int .u8⟩ := ⟨by kernel_rfl, ⟨_, Tryd.underlying6, rfl⟩, rfl⟩
theorem ty_7 : TyOk Tryd.prog 7 ⟨4, 24, .agg #[.int .i64 0, .int .i64 0, .bool false, .int .u8 0], .struct [(0, 2), (1, 3), (2, 4), (3, 6)]⟩ := ⟨by kernel_rfl, ⟨_, Tryd.underlying7, rfl⟩, rfl⟩
theorem ty_8 : TyOk Tryd.prog 8 ⟨4, 24, .agg #[.int .i64 0, .int .i64 0, .bool false, .int .u8 0], .struct [(0, 2), (1, 3), (2, 4), (3, 6)]⟩ := ⟨by kernel_rfl, ⟨_, Tryd.underlying8, rfl⟩, rfl⟩
theorem ty_9 : TyOk Tryd.prog 9 ⟨1, 16, .string .empty, .str⟩ := ⟨by kernel_rfl, ⟨_, Tryd.underlying9, trivial⟩, rfl⟩
theorem ty_10 : TyOk Tryd.prog 10 ⟨1, 16, .string .empty, .str⟩ := ⟨by kernel_rfl, ⟨_, Tryd.underlying10, trivial⟩, rfl⟩
theorem ty_11 : TyOk Tryd.prog 11 ⟨1, 16, .string .empty, .str⟩ := ⟨by kernel_rfl, ⟨_, Tryd.underlying11, trivial⟩, rfl⟩
theorem ty_12 : TyOk Tryd.prog 12 ⟨1, 8, .int .u64 0, .int .u64⟩ := ⟨by kernel_rfl, ⟨_, Tryd.underlying12, rfl⟩, rfl⟩
theorem ty_13 : TyOk Tryd.prog 13 ⟨2, 24, .agg #[.string .empty, .int .u64 0], .struct [(0, 9), (1, 12)]⟩ := ⟨by kernel_rfl, ⟨_, Tryd.underlying13, rfl⟩, rfl⟩
theorem ty_14 : TyOk Tryd.prog 14 ⟨2, 24, .agg #[.string .empty, .int .u64 0], .struct [(0, 9), (1, 12)]⟩ := ⟨by kernel_rfl, ⟨_, Tryd.underlying14, rfl⟩, rfl⟩
theorem ty_15 : TyOk Tryd.prog 15 ⟨1, 8, .pointer none, .ptr⟩ := ⟨by kernel_rfl, ⟨_, Tryd.underlying15, trivial⟩, rfl⟩
theorem ty_16 : TyOk Tryd.prog 16 ⟨1, 8, .pointer none, .ptr⟩ := ⟨by kernel_rfl, ⟨_, Tryd.underlying16, trivial⟩, rfl⟩
theorem ty_17 : TyOk Tryd.prog 17 ⟨1, 8, .pointer none, .ptr⟩ := ⟨by kernel_rfl, ⟨_, Tryd.underlying17, trivial⟩, rfl⟩
theorem ty_18 : TyOk Tryd.prog 18 ⟨1, 8, .agg #[.pointer none], .struct [(0, 17)]⟩ := ⟨by kernel_rfl, ⟨_, Tryd.underlying18, rfl⟩, rfl⟩
theorem ty_19 : TyOk Tryd.prog 19 ⟨1, 8, .agg #[.pointer none], .struct [(0, 17)]⟩ := ⟨by kernel_rfl, ⟨_, Tryd.underlying19, rfl⟩, rfl⟩
theorem ty_20 : TyOk Tryd.prog 20 ⟨1, 16, .nilIface, .iface⟩ := ⟨by kernel_rfl, ⟨_, Tryd.underlying20, trivial⟩, rfl⟩
theorem ty_21 : TyOk Tryd.prog 21 ⟨1, 4, .int .i32 0, .int .i32⟩ := ⟨by kernel_rfl, ⟨_, Tryd.underlying21, rfl⟩, rfl⟩
theorem ty_22 : TyOk Tryd.prog 22 ⟨1, 24, .slice none 0 0, .slice 9⟩ := ⟨by kernel_rfl, ⟨_, Tryd.underlying22, rfl⟩, rfl⟩
theorem ty_23 : TyOk Tryd.prog 23 ⟨2, 40, .agg #[.string .empty, .slice none 0 0], .struct [(0, 9), (1, 22)]⟩ := ⟨by kernel_rfl, ⟨_, Tryd.underlying23, rfl⟩, rfl⟩
theorem ty_24 : TyOk Tryd.prog 24 ⟨2, 40, .agg #[.string .empty, .slice none 0 0], .struct [(0, 9), (1, 22)]⟩ := ⟨by kernel_rfl, ⟨_, Tryd.underlying24, rfl⟩, rfl⟩
theorem ty_25 : TyOk Tryd.prog 25 ⟨1, 24, .slice none 0 0, .slice 24⟩ := ⟨by kernel_rfl, ⟨_, Tryd.underlying25, rfl⟩, rfl⟩
theorem ty_26 : TyOk Tryd.prog 26 ⟨1, 24, .slice none 0 0, .slice 58⟩ := ⟨by kernel_rfl, ⟨_, Tryd.underlying26, rfl⟩, rfl⟩
theorem ty_27 : TyOk Tryd.prog 27 ⟨4, 88, .agg #[.string .empty, .slice none 0 0, .slice none 0 0, .slice none 0 0], .struct [(0, 24), (2, 25), (3, 26)]⟩ := ⟨by kernel_rfl, ⟨_, Tryd.underlying27, rfl⟩, rfl⟩
theorem ty_28 : TyOk Tryd.prog 28 ⟨4, 88, .agg #[.string .empty, .slice none 0 0, .slice none 0 0, .slice none 0 0], .struct [(0, 24), (2, 25), (3, 26)]⟩ := ⟨by kernel_rfl, ⟨_, Tryd.underlying28, rfl⟩, rfl⟩
theorem ty_29 : TyOk Tryd.prog 29 ⟨1, 8, .nilFunc, .other⟩ := ⟨by kernel_rfl, ⟨_, Tryd.underlying29, (fun h => h)⟩, rfl⟩
theorem ty_30 : TyOk Tryd.prog 30 ⟨1, 8, .nilFunc, .other⟩ := ⟨by kernel_rfl, ⟨_, Tryd.underlying30, (fun h => h)⟩, rfl⟩
theorem ty_31 : TyOk Tryd.prog 31 ⟨1, 16, .nilIface, .iface⟩ := ⟨by kernel_rfl, ⟨_, Tryd.underlying31, trivial⟩, rfl⟩
theorem ty_32 : TyOk Tryd.prog 32 ⟨1, 16, .nilIface, .iface⟩ := ⟨by kernel_rfl, ⟨_, Tryd.underlying32, trivial⟩, rfl⟩
theorem ty_33 : TyOk Tryd.prog 33 ⟨1, 8, .nilFunc, .other⟩ := ⟨by kernel_rfl, ⟨_, Tryd.underlying33, (fun h => h)⟩, rfl⟩
theorem ty_34 : TyOk Tryd.prog 34 ⟨1, 8, .nilFunc, .other⟩ := ⟨by kernel_rfl, ⟨_, Tryd.underlying34, (fun h => h)⟩, rfl⟩
theorem ty_35 : TyOk Tryd.prog 35 ⟨1, 8, .nilFunc, .other⟩ := ⟨by kernel_rfl, ⟨_, Tryd.underlying35, (fun h => h)⟩, rfl⟩
theorem ty_36 : TyOk Tryd.prog 36 ⟨1, 24, .slice none 0 0, .slice 28⟩ := ⟨by kernel_rfl, ⟨_, Tryd.underlying36, rfl⟩, rfl⟩
theorem ty_37 : TyOk Tryd.prog 37 ⟨2, 48, .agg #[.slice none 0 0, .slice none 0 0], .struct [(0, 25), (1, 36)]⟩ := ⟨by kernel_rfl, ⟨_, Tryd.underlying37, rfl⟩, rfl⟩
theorem ty_38 : TyOk Tryd.prog 38 ⟨2, 48, .agg #[.slice none 0 0, .slice none 0 0], .struct [(0, 25), (1, 36)]⟩ := ⟨by kernel_rfl, ⟨_, Tryd.underlying38, rfl⟩, rfl⟩
theorem ty_40 : TyOk Tryd.prog 40 ⟨1, 8, .nilFunc, .other⟩ := ⟨by kernel_rfl, ⟨_, Tryd.underlying40, (fun h => h)⟩, rfl⟩
theorem ty_42 : TyOk Tryd.prog 42 ⟨1, 8, .nilFunc, .other⟩ := ⟨by kernel_rfl, ⟨_, Tryd.underlying42, (fun h => h)⟩, rfl⟩
theorem ty_43 : TyOk Tryd.prog 43 ⟨1, 8, .nilFunc, .other⟩ := ⟨by kernel_rfl, ⟨_, Tryd.underlying43, (fun h => h)⟩, rfl⟩
theorem ty_44 : TyOk Tryd.prog 44 ⟨1, 8, .nilFunc, .other⟩ := ⟨by kernel_rfl, ⟨_, Tryd.underlying44, (fun h => h)⟩, rfl⟩
theorem ty_45 : TyOk Tryd.prog 45 ⟨1, 8, .nilFunc, .other⟩ := ⟨by kernel_rfl, ⟨_, Tryd.underlying45, (fun h => h)⟩, rfl⟩
theorem ty_46 : TyOk Tryd.prog 46 ⟨1, 8, .nilFunc, .other⟩ := ⟨by kernel_rfl, ⟨_, Tryd.underlying46, (fun h => h)⟩, rfl⟩
theorem ty_47 : TyOk Tryd.prog 47 ⟨1, 8, .nilFunc, .other⟩ := ⟨by kernel_rfl, ⟨_, Tryd.underlying47, (fun h => h)⟩, rfl⟩
theorem ty_48 : TyOk Tryd.prog 48 ⟨1, 8, .nilFunc, .other⟩ := ⟨by kernel_rfl, ⟨_, Tryd.underlying48, (fun h => h)⟩, rfl⟩
theorem ty_49 : TyOk Tryd.prog 49 ⟨1, 8, .nilFunc, .other⟩ := ⟨by kernel_rfl, ⟨_, Tryd.underlying49, (fun h => h)⟩, rfl⟩
theorem ty_50 : TyOk Tryd.prog 50 ⟨1, 8, .nilFunc, .other⟩ := ⟨by kernel_rfl, ⟨_, Tryd.underlying50, (fun h => h)⟩, rfl⟩
theorem ty_51 : TyOk Tryd.prog 51 ⟨1, 8, .nilFunc, .other⟩ := ⟨by kernel_rfl, ⟨_, Tryd.underlying51, (fun h => h)⟩, rfl⟩
theorem ty_52 : TyOk Tryd.prog 52 ⟨1, 24, .slice none 0 0, .slice 57⟩ := ⟨by kernel_rfl, ⟨_, Tryd.underlying52, rfl⟩, rfl⟩
theorem ty_53 : TyOk Tryd.prog 53 ⟨8, 8, .agg #[.bool false, .bool false, .bool false, .bool false, .bool false, .bool false, .bool false, .bool false], .array 8 4⟩ := ⟨by kernel_rfl, ⟨_, Tryd.underlying53, ⟨rfl, rfl⟩⟩, rfl⟩
theorem ty_54 : TyOk Tryd.prog 54 ⟨64, 64, .agg #[.bool false, .bool false, .bool false, .bool false, .bool false, .bool false, .bool false, .bool false, .bool false, .bool false, .bool false, .bool false, .bool false, .bool false, .bool false, .bool false, .bool false, .bool false, .bool false, .bool false, .bool false, .bool false, .bool false, .bool false, .bool false, .bool false, .bool false, .bool false, .bool false, .bool false, .bool false, .bool false, .bool false, .bool false, .bool false, .bool false, .bool false, .bool false, .bool false, .bool false, .bool false, .bool false, .bool false, .bool false, .bool false, .bool false, .bool false, .bool false, .bool false, .bool false, .bool false, .bool false, .bool false, .bool false, .bool false, .bool false, .bool false, .bool false, .bool false, .bool false, .bool false, .bool false, .bool false, .bool false], .array 8 53⟩ := ⟨by kernel_rfl, ⟨_, Tryd.underlying54, ⟨rfl, rfl⟩⟩, rfl⟩
theorem ty_55 : TyOk Tryd.prog 55 ⟨1, 8, .nilFunc, .other⟩ := ⟨by kernel_rfl, ⟨_, Tryd.underlying55, (fun h => h)⟩, rfl⟩
theorem ty_56 : TyOk Tryd.prog 56 ⟨1, 8, .nilFunc, .other⟩ := ⟨by kernel_rfl, ⟨_, Tryd.underlying56, (fun h => h)⟩, rfl⟩
theorem ty_57 : TyOk Tryd.prog 57 ⟨2, 2, .agg #[.int .u8 0, .int .u8 0], .array 2 5⟩ := ⟨by kernel_rfl, ⟨_, Tryd.underlying57, ⟨rfl, rfl⟩⟩, rfl⟩
theorem ty_58 : TyOk Tryd.prog 58 ⟨2, 32, .agg #[.string .empty, .string .empty], .array 2 9⟩ := ⟨by kernel_rfl, ⟨_, Tryd.underlying58, ⟨rfl, rfl⟩⟩, rfl⟩
theorem ty_59 : TyOk Tryd.prog 59 ⟨1, 8, .nilFunc, .other⟩ := ⟨by kernel_rfl, ⟨_, Tryd.underlying59, (fun h => h)⟩, rfl⟩
theorem ty_60 : TyOk Tryd.prog 60 ⟨1, 8, .nilFunc, .other⟩ := ⟨by kernel_rfl, ⟨_, Tryd.underlying60, (fun h => h)⟩, rfl⟩
theorem ty_61 : TyOk Tryd.prog 61 ⟨1, 8, .nilFunc, .other⟩ := ⟨by kernel_rfl, ⟨_, Tryd.underlying61, (fun h => h)⟩, rfl⟩
theorem ty_62 : TyOk Tryd.prog 62 ⟨1, 8, .nilFunc, .other⟩ := ⟨by kernel_rfl, ⟨_, Tryd.underlying62, (fun h => h)⟩, rfl⟩
theorem ty_63 : TyOk Tryd.prog 63 ⟨1, 8, .int .i64 0, .int .i64⟩ := ⟨by kernel_rfl, ⟨_, Tryd.underlying63, rfl⟩, rfl⟩
theorem ty_64 : TyOk Tryd.prog 64 ⟨1, 24, .slice none 0 0, .slice 5⟩ := ⟨by kernel_rfl, ⟨_, Tryd.underlying64, rfl⟩, rfl⟩
theorem ty_65 : TyOk Tryd.prog 65 ⟨1, 8, .nilFunc, .other⟩ := ⟨by kernel_rfl, ⟨_, Tryd.underlying65, (fun h => h)⟩, rfl⟩
theorem ty_66 : TyOk Tryd.prog 66 ⟨1, 8, .nilFunc, .other⟩ := ⟨by kernel_rfl, ⟨_, Tryd.underlying66, (fun h => h)⟩, rfl⟩
theorem ty_67 : TyOk Tryd.prog 67 ⟨1, 8, .nilFunc, .other⟩ := ⟨by kernel_rfl, ⟨_, Tryd.underlying67, (fun h => h)⟩, rfl⟩
theorem ty_68 : TyOk Tryd.prog 68 ⟨1, 8, .nilFunc, .other⟩ := ⟨by kernel_rfl, ⟨_, Tryd.underlying68, (fun h => h)⟩, rfl⟩
theorem ty_70 : TyOk Tryd.prog 70 ⟨1, 8, .nilFunc, .other⟩ := ⟨by kernel_rfl, ⟨_, Tryd.underlying70, (fun h => h)⟩, rfl⟩
theorem ty_71 : TyOk Tryd.prog 71 ⟨1, 8, .nilFunc, .other⟩ := ⟨by kernel_rfl, ⟨_, Tryd.underlying71, (fun h => h)⟩, rfl⟩
theorem ty_72 : TyOk Tryd.prog 72 ⟨1, 8, .nilFunc, .other⟩ := ⟨by kernel_rfl, ⟨_, Tryd.underlying72, (fun h => h)⟩, rfl⟩
theorem ty_73 : TyOk Tryd.prog 73 ⟨1, 8, .nilFunc, .other⟩ := ⟨by kernel_rfl, ⟨_, Tryd.underlying73, (fun h => h)⟩, rfl⟩
theorem ty_74 : TyOk Tryd.prog 74 ⟨1, 8, .nilFunc, .other⟩ := ⟨by kernel_rfl, ⟨_, Tryd.underlying74, (fun h => h)⟩, rfl⟩
theorem ty_75 : TyOk Tryd.prog 75 ⟨1, 8, .nilFunc, .other⟩ := ⟨by kernel_rfl, ⟨_, Tryd.underlying75, (fun h => h)⟩, rfl⟩
theorem ty_76 : TyOk Tryd.prog 76 ⟨1, 8, .nilFunc, .other⟩ := ⟨by kernel_rfl, ⟨_, Tryd.underlying76, (fun h => h)⟩, rfl⟩
theorem ty_77 : TyOk Tryd.prog 77 ⟨1, 8, .nilFunc, .other⟩ := ⟨by kernel_rfl, ⟨_, Tryd.underlying77, (fun h => h)⟩, rfl⟩
theorem ty_78 : TyOk Tryd.prog 78 ⟨1, 8, .nilFunc, .other⟩ := ⟨by kernel_rfl, ⟨_, Tryd.underlying78, (fun h => h)⟩, rfl⟩
theorem ty_79 : TyOk Tryd.prog 79 ⟨1, 8, .nilFunc, .other⟩ := ⟨by kernel_rfl, ⟨_, Tryd.underlying79, (fun h => h)⟩, rfl⟩
theorem ty_80 : TyOk Tryd.prog 80 ⟨1, 8, .pointer none, .ptr⟩ := ⟨by kernel_rfl, ⟨_, Tryd.underlying80, trivial⟩, rfl⟩
theorem ty_81 : TyOk Tryd.prog 81 ⟨1, 8, .nilFunc, .other⟩ := ⟨by kernel_rfl, ⟨_, Tryd.underlying81, (fun h => h)⟩, rfl⟩
theorem ty_82 : TyOk Tryd.prog 82 ⟨1, 8, .map none, .other⟩ := ⟨by kernel_rfl, ⟨_, Tryd.underlying82, (fun h => h)⟩, rfl⟩
theorem ty_83 : TyOk Tryd.prog 83 ⟨2, 32, .agg #[.slice none 0 0, .map none], .struct [(0, 25), (1, 82)]⟩ := ⟨by kernel_rfl, ⟨_, Tryd.underlying83, rfl⟩, rfl⟩
theorem ty_84 : TyOk Tryd.prog 84 ⟨2, 32, .agg #[.slice none 0 0, .map none], .struct [(0, 25), (1, 82)]⟩ := ⟨by kernel_rfl, ⟨_, Tryd.underlying84, rfl⟩, rfl⟩
theorem ty_86 : TyOk Tryd.prog 86 ⟨1, 8, .nilFunc, .other⟩ := ⟨by kernel_rfl, ⟨_, Tryd.underlying86, (fun h => h)⟩, rfl⟩
theorem ty_87 : TyOk Tryd.prog 87 ⟨1, 8, .nilFunc, .other⟩ := ⟨by kernel_rfl, ⟨_, Tryd.underlying87, (fun h => h)⟩, rfl⟩
theorem ty_88 : TyOk Tryd.prog 88 ⟨1, 24, .slice none 0 0, .slice 22⟩ := ⟨by kernel_rfl, ⟨_, Tryd.underlying88, rfl⟩, rfl⟩
theorem ty_89 : TyOk Tryd.prog 89 ⟨1, 8, .nilFunc, .other⟩ := ⟨by kernel_rfl, ⟨_, Tryd.underlying89, (fun h => h)⟩, rfl⟩
theorem ty_90 : TyOk Tryd.prog 90 ⟨1, 8, .nilFunc, .other⟩ := ⟨by kernel_rfl, ⟨_, Tryd.underlying90, (fun h => h)⟩, rfl⟩
theorem ty_91 : TyOk Tryd.prog 91 ⟨1, 8, .nilFunc, .other⟩ := ⟨by kernel_rfl, ⟨_, Tryd.underlying91, (fun h => h)⟩, rfl⟩
theorem ty_92 : TyOk Tryd.prog 92 ⟨1, 8, .map none, .other⟩ := ⟨by kernel_rfl, ⟨_, Tryd.underlying92, (fun h => h)⟩, rfl⟩
theorem ty_93 : TyOk Tryd.prog 93 ⟨1, 8, .nilFunc, .other⟩ := ⟨by kernel_rfl, ⟨_, Tryd.underlying93, (fun h => h)⟩, rfl⟩
theorem ty_94 : TyOk Tryd.prog 94 ⟨1, 8, .nilFunc, .other⟩ := ⟨by kernel_rfl, ⟨_, Tryd.underlying94, (fun h => h)⟩, rfl⟩
theorem ty_95 : TyOk Tryd.prog 95 ⟨1, 8, .nilFunc, .other⟩ := ⟨by kernel_rfl, ⟨_, Tryd.underlying95, (fun h => h)⟩, rfl⟩
theorem ty_96 : TyOk Tryd.prog 96 ⟨1, 8, .nilFunc, .other⟩ := ⟨by kernel_rfl, ⟨_, Tryd.underlying96, (fun h => h)⟩, rfl⟩
theorem ty_97 : TyOk Tryd.prog 97 ⟨1, 8, .nilFunc, .other⟩ := ⟨by kernel_rfl, ⟨_, Tryd.underlying97, (fun h => h)⟩, rfl⟩
theorem ty_98 : TyOk Tryd.prog 98 ⟨1, 8, .nilFunc, .other⟩ := ⟨by kernel_rfl, ⟨_, Tryd.underlying98, (fun h => h)⟩, rfl⟩
theorem ty_99 : TyOk Tryd.prog 99 ⟨1, 8, .nilFunc, .other⟩ := ⟨by kernel_rfl, ⟨_, Tryd.underlying99, (fun h => h)⟩, rfl⟩
theorem ty_100 : TyOk Tryd.prog 100 ⟨2, 24, .agg #[.string .empty, .int .i64 0], .struct [(0, 9), (1, 3)]⟩ := ⟨by kernel_rfl, ⟨_, Tryd.underlying100, rfl⟩, rfl⟩
theorem ty_101 : TyOk Tryd.prog 101 ⟨2, 24, .agg #[.string .empty, .int .i64 0], .struct [(0, 9), (1, 3)]⟩ := ⟨by kernel_rfl, ⟨_, Tryd.underlying101, rfl⟩, rfl⟩
theorem ty_102 : TyOk Tryd.prog 102 ⟨1, 8, .map none, .other⟩ := ⟨by kernel_rfl, ⟨_, Tryd.underlying102, (fun h => h)⟩, rfl⟩
theorem ty_103 : TyOk Tryd.prog 103 ⟨1, 8, .pointer none, .ptr⟩ := ⟨by kernel_rfl, ⟨_, Tryd.underlying103, trivial⟩, rfl⟩
theorem ty_104 : TyOk Tryd.prog 104 ⟨1, 8, .map none, .other⟩ := ⟨by kernel_rfl, ⟨_, Tryd.underlying104, (fun h => h)⟩, rfl⟩
theorem ty_105 : TyOk Tryd.prog 105 ⟨1, 8, .nilFunc, .other⟩ := ⟨by kernel_rfl, ⟨_, Tryd.underlying105, (fun h => h)⟩, rfl⟩
theorem ty_106 : TyOk Tryd.prog 106 ⟨7, 88, .agg #[.pointer none, .slice none 0 0, .slice none 0 0, .int .i64 0, .map none, .nilFunc, .bool false], .struct [(0, 80), (1, 25), (2, 26), (3, 3), (4, 104), (5, 105), (6, 4)]⟩ := ⟨by kernel_rfl, ⟨_, Tryd.underlying106, rfl⟩, rfl⟩
theorem ty_107 : TyOk Tryd.prog 107 ⟨7, 88, .agg #[.pointer none, .slice none 0 0, .slice none 0 0, .int .i64 0, .map none, .nilFunc, .bool false], .struct [(0, 80), (1, 25), (2, 26), (3, 3), (4, 104), (5, 105), (6, 4)]⟩ := ⟨by kernel_rfl, ⟨_, Tryd.underlying107, rfl⟩, rfl⟩
theorem ty_108 : TyOk Tryd.prog 108 ⟨1, 8, .nilFunc, .other⟩ := ⟨by kernel_rfl, ⟨_, Tryd.underlying108, (fun h => h)⟩, rfl⟩
theorem ty_110 : TyOk Tryd.prog 110 ⟨1, 8, .nilFunc, .other⟩ := ⟨by kernel_rfl, ⟨_, Tryd.underlying110, (fun h => h)⟩, rfl⟩
theorem ty_111 : TyOk Tryd.prog 111 ⟨1, 8, .nilFunc, .other⟩ := ⟨by kernel_rfl, ⟨_, Tryd.underlying111, (fun h => h)⟩, rfl⟩
theorem ty_112 : TyOk Tryd.prog 112 ⟨1, 8, .nilFunc, .other⟩ := ⟨by kernel_rfl, ⟨_, Tryd.underlying112, (fun h => h)⟩, rfl⟩
theorem ty_114 : TyOk Tryd.prog 114 ⟨1, 8, .nilFunc, .other⟩ := ⟨by kernel_rfl, ⟨_, Tryd.underlying114, (fun h => h)⟩, rfl⟩
theorem ty_115 : TyOk Tryd.prog 115 ⟨1, 8, .nilFunc, .other⟩ := ⟨by kernel_rfl, ⟨_, Tryd.underlying115, (fun h => h)⟩, rfl⟩
theorem ty_116 : TyOk Tryd.prog 116 ⟨1, 8, .nilFunc, .other⟩ := ⟨by kernel_rfl, ⟨_, Tryd.underlying116, (fun h => h)⟩, rfl⟩
theorem ty_117 : TyOk Tryd.prog 117 ⟨1, 8, .nilFunc, .other⟩ := ⟨by kernel_rfl, ⟨_, Tryd.underlying117, (fun h => h)⟩, rfl⟩
theorem ty_118 : TyOk Tryd.prog 118 ⟨1, 8, .int .u64 0, .int .u64⟩ := ⟨by kernel_rfl, ⟨_, Tryd.underlying118, rfl⟩, rfl⟩
theorem ty_119 : TyOk Tryd.prog 119 ⟨1, 8, .nilFunc, .other⟩ := ⟨by kernel_rfl, ⟨_, Tryd.underlying119, (fun h => h)⟩, rfl⟩
theorem ty_120 : TyOk Tryd.prog 120 ⟨1, 8, .nilFunc, .other⟩ := ⟨by kernel_rfl, ⟨_, Tryd.underlying120, (fun h => h)⟩, rfl⟩
theorem ty_121 : TyOk Tryd.prog 121 ⟨1, 8, .nilFunc, .other⟩ := ⟨by kernel_rfl, ⟨_, Tryd.underlying121, (fun h => h)⟩, rfl⟩
theorem ty_122 : TyOk Tryd.prog 122 ⟨1, 8, .nilFunc, .other⟩ := ⟨by kernel_rfl, ⟨_, Tryd.underlying122, (fun h => h)⟩, rfl⟩
theorem ty_123 : TyOk Tryd.prog 123 ⟨1, 8, .nilFunc, .other⟩ := ⟨by kernel_rfl, ⟨_, Tryd.underlying123, (fun h => h)⟩, rfl⟩
theorem ty_124 : TyOk Tryd.prog 124 ⟨1, 8, .int .i64 0, .int .i64⟩ := ⟨by kernel_rfl, ⟨_, Tryd.underlying124, rfl⟩, rfl⟩
theorem ty_126 : TyOk Tryd.prog 126 ⟨1, 8, .nilFunc, .other⟩ := ⟨by kernel_rfl, ⟨_, Tryd.underlying126, (fun h => h)⟩, rfl⟩
theorem ty_127 : TyOk Tryd.prog 127 ⟨1, 8, .nilFunc, .other⟩ := ⟨by kernel_rfl, ⟨_, Tryd.underlying127, (fun h => h)⟩, rfl⟩
theorem ty_128 : TyOk Tryd.prog 128 ⟨1, 8, .nilFunc, .other⟩ := ⟨by kernel_rfl, ⟨_, Tryd.underlying128, (fun h => h)⟩, rfl⟩
theorem ty_130 : TyOk Tryd.prog 130 ⟨1, 8, .nilFunc, .other⟩ := ⟨by kernel_rfl, ⟨_, Tryd.underlying130, (fun h => h)⟩, rfl⟩
theorem ty_131 : TyOk Tryd.prog 131 ⟨1, 8, .nilFunc, .other⟩ := ⟨by kernel_rfl, ⟨_, Tryd.underlying131, (fun h => h)⟩, rfl⟩
theorem ty_132 : TyOk Tryd.prog 132 ⟨1, 4, .int .u32 0, .int .u32⟩ := ⟨by kernel_rfl, ⟨_, Tryd.underlying132, rfl⟩, rfl⟩
theorem ty_133 : TyOk Tryd.prog 133 ⟨1, 8, .nilFunc, .other⟩ := ⟨by kernel_rfl, ⟨_, Tryd.underlying133, (fun h => h)⟩, rfl⟩
theorem ty_134 : TyOk Tryd.prog 134 ⟨1, 8, .int .u64 0, .int .u64⟩ := ⟨by kernel_rfl, ⟨_, Tryd.underlying134, rfl⟩, rfl⟩
theorem ty_135 : TyOk Tryd.prog 135 ⟨1, 24, .slice none 0 0, .slice 3⟩ := ⟨by kernel_rfl, ⟨_, Tryd.underlying135, rfl⟩, rfl⟩
theorem ty_136 : TyOk Tryd.prog 136 ⟨1, 8, .nilFunc, .other⟩ := ⟨by kernel_rfl, ⟨_, Tryd.underlying136, (fun h => h)⟩, rfl⟩
theorem ty_137 : TyOk Tryd.prog 137 ⟨1, 8, .int .u64 0, .int .u64⟩ := ⟨by kernel_rfl, ⟨_, Tryd.underlying137, rfl⟩, rfl⟩
theorem ty_138 : TyOk Tryd.prog 138 ⟨1, 8, .nilFunc, .other⟩ := ⟨by kernel_rfl, ⟨_, Tryd.underlying138, (fun h => h)⟩, rfl⟩
theorem ty_139 : TyOk Tryd.prog 139 ⟨1, 8, .nilFunc, .other⟩ := ⟨by kernel_rfl, ⟨_, Tryd.underlying139, (fun h => h)⟩, rfl⟩
theorem ty_140 : TyOk Tryd.prog 140 ⟨1, 8, .nilFunc, .other⟩ := ⟨by kernel_rfl, ⟨_, Tryd.underlying140, (fun h => h)⟩, rfl⟩
theorem ty_141 : TyOk Tryd.prog 141 ⟨1, 8, .pointer none, .ptr⟩ := ⟨by kernel_rfl, ⟨_, Tryd.underlying141, trivial⟩, rfl⟩
theorem ty_142 : TyOk Tryd.prog 142 ⟨1, 8, .nilFunc, .other⟩ := ⟨by kernel_rfl, ⟨_, Tryd.underlying142, (fun h => h)⟩, rfl⟩
theorem ty_143 : TyOk Tryd.prog 143 ⟨24, 24, .agg #[.int .u8 0, .int .u8 0, .int .u8 0, .int .u8 0, .int .u8 0, .int .u8 0, .int .u8 0, .int .u8 0, .int .u8 0, .int .u8 0, .int .u8 0, .int .u8 0, .int .u8 0, .int .u8 0, .int .u8 0, .int .u8 0, .int .u8 0, .int .u8 0, .int .u8 0, .int .u8 0, .int .u8 0, .int .u8 0, .int .u8 0, .int .u8 0], .array 24 5⟩ := ⟨by kernel_rfl, ⟨_, Tryd.underlying143, ⟨rfl, rfl⟩⟩, rfl⟩
theorem ty_144 : TyOk Tryd.prog 144 ⟨1, 8, .nilFunc, .other⟩ := ⟨by kernel_rfl, ⟨_, Tryd.underlying144, (fun h => h)⟩, rfl⟩
theorem ty_146 : TyOk Tryd.prog 146 ⟨1, 8, .nilFunc, .other⟩ := ⟨by kernel_rfl, ⟨_, Tryd.underlying146, (fun h => h)⟩, rfl⟩
theorem ty_147 : TyOk Tryd.prog 147 ⟨1, 8, .pointer none, .ptr⟩ := ⟨by kernel_rfl, ⟨_, Tryd.underlying147, trivial⟩, rfl⟩
theorem ty_149 : TyOk Tryd.prog 149 ⟨1, 8, .nilFunc, .other⟩ := ⟨by kernel_rfl, ⟨_, Tryd.underlying149, (fun h => h)⟩, rfl⟩
theorem ty_150 : TyOk Tryd.prog 150 ⟨1, 8, .nilFunc, .other⟩ := ⟨by kernel_rfl, ⟨_, Tryd.underlying150, (fun h => h)⟩, rfl⟩
theorem ty_151 : TyOk Tryd.prog 151 ⟨1, 8, .nilFunc, .other⟩ := ⟨by kernel_rfl, ⟨_, Tryd.underlying151, (fun h => h)⟩, rfl⟩
theorem ty_152 : TyOk Tryd.prog 152 ⟨20, 160, .agg #[.int .u64 0, .int .u64 0, .int .u64 0, .int .u64 0, .int .u64 0, .int .u64 0, .int .u64 0, .int .u64 0, .int .u64 0, .int .u64 0, .int .u64 0, .int .u64 0, .int .u64 0, .int .u64 0, .int .u64 0, .int .u64 0, .int .u64 0, .int .u64 0, .int .u64 0, .int .u64 0], .array 20 134⟩ := ⟨by kernel_rfl, ⟨_, Tryd.underlying152, ⟨rfl, rfl⟩⟩, rfl⟩
theorem ty_154 : TyOk Tryd.prog 154 ⟨1, 8, .nilFunc, .other⟩ := ⟨by kernel_rfl, ⟨_, Tryd.underlying154, (fun h => h)⟩, rfl⟩
theorem ty_155 : TyOk Tryd.prog 155 ⟨32, 32, .agg #[.int .u8 0, .int .u8 0, .int .u8 0, .int .u8 0, .int .u8 0, .int .u8 0, .int .u8 0, .int .u8 0, .int .u8 0, .int .u8 0, .int .u8 0, .int .u8 0, .int .u8 0, .int .u8 0, .int .u8 0, .int .u8 0, .int .u8 0, .int .u8 0, .int .u8 0, .int .u8 0, .int .u8 0, .int .u8 0, .int .u8 0, .int .u8 0, .int .u8 0, .int .u8 0, .int .u8 0, .int .u8 0, .int .u8 0, .int .u8 0, .int .u8 0, .int .u8 0], .array 32 5⟩ := ⟨by kernel_rfl, ⟨_, Tryd.underlying155, ⟨rfl, rfl⟩⟩, rfl⟩
theorem ty_156 : TyOk Tryd.prog 156 ⟨64, 64, .agg #[.int .u8 0, .int .u8 0, .int .u8 0, .int .u8 0, .int .u8 0, .int .u8 0, .int .u8 0, .int .u8 0, .int .u8 0, .int .u8 0, .int .u8 0, .int .u8 0, .int .u8 0, .int .u8 0, .int .u8 0, .int .u8 0, .int .u8 0, .int .u8 0, .int .u8 0, .int .u8 0, .int .u8 0, .int .u8 0, .int .u8 0, .int .u8 0, .int .u8 0, .int .u8 0, .int .u8 0, .int .u8 0, .int .u8 0, .int .u8 0, .int .u8 0, .int .u8 0, .int .u8 0, .int .u8 0, .int .u8 0, .int .u8 0, .int .u8 0, .int .u8 0, .int .u8 0, .int .u8 0, .int .u8 0, .int .u8 0, .int .u8 0, .int .u8 0, .int .u8 0, .int .u8 0, .int .u8 0, .int .u8 0, .int .u8 0, .int .u8 0, .int .u8 0, .int .u8 0, .int .u8 0, .int .u8 0, .int .u8 0, .int .u8 0, .int .u8 0, .int .u8 0, .int .u8 0, .int .u8 0, .int .u8 0, .int .u8 0, .int .u8 0, .int .u8 0], .array 64 5⟩ := ⟨by kernel_rfl, ⟨_, Tryd.underlying156, ⟨rfl, rfl⟩⟩, rfl⟩
theorem ty_157 : TyOk Tryd.prog 157 ⟨1, 8, .nilFunc, .other⟩ := ⟨by kernel_rfl, ⟨_, Tryd.underlying157, (fun h => h)⟩, rfl⟩
theorem ty_158 : TyOk Tryd.prog 158 ⟨4, 40, .agg #[.pointer none, .pointer none, .pointer none, .string .empty], .struct [(0, 17), (1, 17), (2, 17), (3, 9)]⟩ := ⟨by kernel_rfl, ⟨_, Tryd.underlying158, rfl⟩, rfl⟩
theorem ty_159 : TyOk Tryd.prog 159 ⟨4, 40, .agg #[.pointer none, .pointer none, .pointer none, .string .empty], .struct [(0, 17), (1, 17), (2, 17), (3, 9)]⟩ := ⟨by kernel_rfl, ⟨_, Tryd.underlying159, rfl⟩, rfl⟩
theorem ty_160 : TyOk Tryd.prog 160 ⟨0, 0, .agg #[], .array 0 16⟩ := ⟨by kernel_rfl, ⟨_, Tryd.underlying160, ⟨rfl, rfl⟩⟩, rfl⟩
theorem ty_161 : TyOk Tryd.prog 161 ⟨0, 0, .agg #[], .struct [(0, 160)]⟩ := ⟨by kernel_rfl, ⟨_, Tryd.underlying161, rfl⟩, rfl⟩
theorem ty_162 : TyOk Tryd.prog 162 ⟨0, 0, .agg #[], .struct [(0, 160)]⟩ := ⟨by kernel_rfl, ⟨_, Tryd.underlying162, rfl⟩, rfl⟩
theorem ty_163 : TyOk Tryd.prog 163 ⟨1, 8, .nilFunc, .other⟩ := ⟨by kernel_rfl, ⟨_, Tryd.underlying163, (fun h => h)⟩, rfl⟩
theorem ty_164 : TyOk Tryd.prog 164 ⟨1, 1, .int .u8 0, .int .u8⟩ := ⟨by kernel_rfl, ⟨_, Tryd.underlying164, rfl⟩, rfl⟩
theorem ty_165 : TyOk Tryd.prog 165 ⟨1, 1, .int .u8 0, .int .u8⟩ := ⟨by kernel_rfl, ⟨_, Tryd.underlying165, rfl⟩, rfl⟩
theorem ty_166 : TyOk Tryd.prog 166 ⟨1, 8, .nilFunc, .other⟩ := ⟨by kernel_rfl, ⟨_, Tryd.underlying166, (fun h => h)⟩, rfl⟩
theorem ty_167 : TyOk Tryd.prog 167 ⟨1, 8, .pointer none, .ptr⟩ := ⟨by kernel_rfl, ⟨_, Tryd.underlying167, trivial⟩, rfl⟩
theorem ty_168 : TyOk Tryd.prog 168 ⟨1, 4, .int .i32 0, .int .i32⟩ := ⟨by kernel_rfl, ⟨_, Tryd.underlying168, rfl⟩, rfl⟩
theorem ty_169 : TyOk Tryd.prog 169 ⟨1, 4, .int .i32 0, .int .i32⟩ := ⟨by kernel_rfl, ⟨_, Tryd.underlying169, rfl⟩, rfl⟩
theorem ty_170 : TyOk Tryd.prog 170 ⟨11, 48, .agg #[.int .u64 0, .int .u64 0, .int .u32 0, .int .u8 0, .int .u8 0, .int .u8 0, .int .u8 0, .nilFunc, .pointer none, .int .i32 0, .int .i32 0], .struct [(0, 12), (1, 12), (2, 132), (3, 164), (4, 5), (5, 5), (6, 165), (7, 166), (8, 167), (9, 168), (10, 169)]⟩ := ⟨by kernel_rfl, ⟨_, Tryd.underlying170, rfl⟩, rfl⟩
theorem ty_171 : TyOk Tryd.prog 171 ⟨11, 48, .agg #[.int .u64 0, .int .u64 0, .int .u32 0, .int .u8 0, .int .u8 0, .int .u8 0, .int .u8 0, .nilFunc, .pointer none, .int .i32 0, .int .i32 0], .struct [(0, 12), (1, 12), (2, 132), (3, 164), (4, 5), (5, 5), (6, 165), (7, 166), (8, 167), (9, 168), (10, 169)]⟩ := ⟨by kernel_rfl, ⟨_, Tryd.underlying171, rfl⟩, rfl⟩
def allTy (P : Program) : Nat → List (Option TI) → Prop
  | _, [] => True
  | k, none :: r => allTy P (k + 1) r
  | k, some ti :: r => TyOk P k ti ∧ allTy P (k + 1) r
theorem allTy_at {P : Program} : ∀ {l : List (Option TI)} {k : Nat}, allTy P k l → ∀ (t : Nat) (ti : TI), l[t]? = some (some ti) → TyOk P (k + t) ti
  | [], _, _, t, ti, h => by simp at h
  | none :: r, k, ha, t, ti, h => by
    cases t with
    | zero => simp at h
    | succ t =>
      have := allTy_at (l := r) (k := k + 1) ha t ti (by simpa using h)
      rw [show k + (t + 1) = k + 1 + t from by omega]
      exact this
  | some x :: r, k, ha, t, ti, h => by
    cases t with
    | zero => simp at h; subst h; exact ha.1
    | succ t =>
      have := allTy_at (l := r) (k := k + 1) ha.2 t ti (by simpa using h)
      rw [show k + (t + 1) = k + 1 + t from by omega]
      exact this
def tyTab : List (Option TI) := [none,
  some ⟨1, 8, .nilFunc, .other⟩,
  some ⟨1, 8, .int .i64 0, .int .i64⟩,
  some ⟨1, 8, .int .i64 0, .int .i64⟩,
  some ⟨1, 1, .bool false, .bool⟩,
  some ⟨1, 1, .int .u8 0, .int .u8⟩,
  some ⟨1, 1, .int .u8 0, .int .u8⟩,
  some ⟨4, 24, .agg #[.int .i64 0, .int .i64 0, .bool false, .int .u8 0], .struct [(0, 2), (1, 3), (2, 4), (3, 6)]⟩,
  some ⟨4, 24, .agg #[.int .i64 0, .int .i64 0, .bool false, .int .u8 0], .struct [(0, 2), (1, 3), (2, 4), (3, 6)]⟩,
  some ⟨1, 16, .string .empty, .str⟩,
  some ⟨1, 16, .string .empty, .str⟩,
  some ⟨1, 16, .string .empty, .str⟩,
  some ⟨1, 8, .int .u64 0, .int .u64⟩,
  some ⟨2, 24, .agg #[.string .empty, .int .u64 0], .struct [(0, 9), (1, 12)]⟩,
  some ⟨2, 24, .agg #[.string .empty, .int .u64 0], .struct [(0, 9), (1, 12)]⟩,
  some ⟨1, 8, .pointer none, .ptr⟩,
  some ⟨1, 8, .pointer none, .ptr⟩,
  some ⟨1, 8, .pointer none, .ptr⟩,
  some ⟨1, 8, .agg #[.pointer none], .struct [(0, 17)]⟩,
  some ⟨1, 8, .agg #[.pointer none], .struct [(0, 17)]⟩,
  some ⟨1, 16, .nilIface, .iface⟩,
  some ⟨1, 4, .int .i32 0, .int .i32⟩,
  some ⟨1, 24, .slice none 0 0, .slice 9⟩,
  some ⟨2, 40, .agg #[.string .empty, .slice none 0 0], .struct [(0, 9), (1, 22)]⟩,
  some ⟨2, 40, .agg #[.string .empty, .slice none 0 0], .struct [(0, 9), (1, 22)]⟩,
  some ⟨1, 24, .slice none 0 0, .slice 24⟩,
  some ⟨1, 24, .slice none 0 0, .slice 58⟩,
  some ⟨4, 88, .agg #[.string .empty, .slice none 0 0, .slice none 0 0, .slice none 0 0], .struct [(0, 24), (2, 25), (3, 26)]⟩,
  some ⟨4, 88, .agg #[.string .empty, .slice none 0 0, .slice none 0 0, .slice none 0 0], .struct [(0, 24), (2, 25), (3, 26)]⟩,
  some ⟨1, 8, .nilFunc, .other⟩,
  some ⟨1, 8, .nilFunc, .other⟩,
  some ⟨1, 16, .nilIface, .iface⟩,
  some ⟨1, 16, .nilIface, .iface⟩,
  some ⟨1, 8, .nilFunc, .other⟩,
  some ⟨1, 8, .nilFunc, .other⟩,
  some ⟨1, 8, .nilFunc, .other⟩,
  some ⟨1, 24, .slice none 0 0, .slice 28⟩,
  some ⟨2, 48, .agg #[.slice none 0 0, .slice none 0 0], .struct [(0, 25), (1, 36)]⟩,
  some ⟨2, 48, .agg #[.slice none 0 0, .slice none 0 0], .struct [(0, 25), (1, 36)]⟩,
  none,
  some ⟨1, 8, .nilFunc, .other⟩,
  none,
  some ⟨1, 8, .nilFunc, .other⟩,
  some ⟨1, 8, .nilFunc, .other⟩,
  some ⟨1, 8, .nilFunc, .other⟩,
  some ⟨1, 8, .nilFunc, .other⟩,
  some ⟨1, 8, .nilFunc, .other⟩,
  some ⟨1, 8, .nilFunc, .other⟩,
  some ⟨1, 8, .nilFunc, .other⟩,
  some ⟨1, 8, .nilFunc, .other⟩,
  some ⟨1, 8, .nilFunc, .other⟩,
  some ⟨1, 8, .nilFunc, .other⟩,
  some ⟨1, 24, .slice none 0 0, .slice 57⟩,
  some ⟨8, 8, .agg #[.bool false, .bool false, .bool false, .bool false, .bool false, .bool false, .bool false, .bool false], .array 8 4⟩,
  some ⟨64, 64, .agg #[.bool false, .bool false, .bool false, .bool false, .bool false, .bool false, .bool false, .bool false, .bool false, .bool false, .bool false, .bool false, .bool false, .bool false, .bool false, .bool false, .bool false, .bool false, .bool false, .bool false, .bool false, .bool false, .bool false, .bool false, .bool false, .bool false, .bool false, .bool false, .bool false, .bool false, .bool false, .bool false, .bool false, .bool false, .bool false, .bool false, .bool false, .bool false, .bool false, .bool false, .bool false, .bool false, .bool false, .bool false, .bool false, .bool false, .bool false, .bool false, .bool false, .bool false, .bool false, .bool false, .bool false, .bool false, .bool false, .bool false, .bool false, .bool false, .bool false, .bool false, .bool false, .bool false, .bool false, .bool false], .array 8 53⟩,
  some ⟨1, 8, .nilFunc, .other⟩,
  some ⟨1, 8, .nilFunc, .other⟩,
  some ⟨2, 2, .agg #[.int .u8 0, .int .u8 0], .array 2 5⟩,
  some ⟨2, 32, .agg #[.string .empty, .string .empty], .array 2 9⟩,
  some ⟨1, 8, .nilFunc, .other⟩,
  some ⟨1, 8, .nilFunc, .other⟩,
  some ⟨1, 8, .nilFunc, .other⟩,
  some ⟨1, 8, .nilFunc, .other⟩,
  some ⟨1, 8, .int .i64 0, .int .i64⟩,
  some ⟨1, 24, .slice none 0 0, .slice 5⟩,
  some ⟨1, 8, .nilFunc, .other⟩,
  some ⟨1, 8, .nilFunc, .other⟩,
  some ⟨1, 8, .nilFunc, .other⟩,
  some ⟨1, 8, .nilFunc, .other⟩,
  none,
  some ⟨1, 8, .nilFunc, .other⟩,
  some ⟨1, 8, .nilFunc, .other⟩,
  some ⟨1, 8, .nilFunc, .other⟩,
  some ⟨1, 8, .nilFunc, .other⟩,
  some ⟨1, 8, .nilFunc, .other⟩,
  some ⟨1, 8, .nilFunc, .other⟩,
  some ⟨1, 8, .nilFunc, .other⟩,
  some ⟨1, 8, .nilFunc, .other⟩,
  some ⟨1, 8, .nilFunc, .other⟩,
  some ⟨1, 8, .nilFunc, .other⟩,
  some ⟨1, 8, .pointer none, .ptr⟩,
  some ⟨1, 8, .nilFunc, .other⟩,
  some ⟨1, 8, .map none, .other⟩,
  some ⟨2, 32, .agg #[.slice none 0 0, .map none], .struct [(0, 25), (1, 82)]⟩,
  some ⟨2, 32, .agg #[.slice none 0 0, .map none], .struct [(0, 25), (1, 82)]⟩,
  none,
  some ⟨1, 8, .nilFunc, .other⟩,
  some ⟨1, 8, .nilFunc, .other⟩,
  some ⟨1, 24, .slice none 0 0, .slice 22⟩,
  some ⟨1, 8, .nilFunc, .other⟩,
  some ⟨1, 8, .nilFunc, .other⟩,
  some ⟨1, 8, .nilFunc, .other⟩,
  some ⟨1, 8, .map none, .other⟩,
  some ⟨1, 8, .nilFunc, .other⟩,
  some ⟨1, 8, .nilFunc, .other⟩,
  some ⟨1, 8, .nilFunc, .other⟩,
  some ⟨1, 8, .nilFunc, .other⟩,
  some ⟨1, 8, .nilFunc, .other⟩,
  some ⟨1, 8, .nilFunc, .other⟩,
  some ⟨1, 8, .nilFunc, .other⟩,
  some ⟨2, 24, .agg #[.string .empty, .int .i64 0], .struct [(0, 9), (1, 3)]⟩,
  some ⟨2, 24, .agg #[.string .empty, .int .i64 0], .struct [(0, 9), (1, 3)]⟩,
  some ⟨1, 8, .map none, .other⟩,
  some ⟨1, 8, .pointer none, .ptr⟩,
  some ⟨1, 8, .map none, .other⟩,
  some ⟨1, 8, .nilFunc, .other⟩,
  some ⟨7, 88, .agg #[.pointer none, .slice none 0 0, .slice none 0 0, .int .i64 0, .map none, .nilFunc, .bool false], .struct [(0, 80), (1, 25), (2, 26), (3, 3), (4, 104), (5, 105), (6, 4)]⟩,
  some ⟨7, 88, .agg #[.pointer none, .slice none 0 0, .slice none 0 0, .int .i64 0, .map none, .nilFunc, .bool false], .struct [(0, 80), (1, 25), (2, 26), (3, 3), (4, 104), (5, 105), (6, 4)]⟩,
  some ⟨1, 8, .nilFunc, .other⟩,
  none,
  some ⟨1, 8, .nilFunc, .other⟩,
  some ⟨1, 8, .nilFunc, .other⟩,
  some ⟨1, 8, .nilFunc, .other⟩,
  none,
  some ⟨1, 8, .nilFunc, .other⟩,
  some ⟨1, 8, .nilFunc, .other⟩,
  some ⟨1, 8, .nilFunc, .other⟩,
  some ⟨1, 8, .nilFunc, .other⟩,
  some ⟨1, 8, .int .u64 0, .int .u64⟩,
  some ⟨1, 8, .nilFunc, .other⟩,
  some ⟨1, 8, .nilFunc, .other⟩,
  some ⟨1, 8, .nilFunc, .other⟩,
  some ⟨1, 8, .nilFunc, .other⟩,
  some ⟨1, 8, .nilFunc, .other⟩,
  some ⟨1, 8, .int .i64 0, .int .i64⟩,
  none,
  some ⟨1, 8, .nilFunc, .other⟩,
  some ⟨1, 8, .nilFunc, .other⟩,
  some ⟨1, 8, .nilFunc, .other⟩,
  none,
  some ⟨1, 8, .nilFunc, .other⟩,
  some ⟨1, 8, .nilFunc, .other⟩,
  some ⟨1, 4, .int .u32 0, .int .u32⟩,
  some ⟨1, 8, .nilFunc, .other⟩,
  some ⟨1, 8, .int .u64 0, .int .u64⟩,
  some ⟨1, 24, .slice none 0 0, .slice 3⟩,
  some ⟨1, 8, .nilFunc, .other⟩,
  some ⟨1, 8, .int .u64 0, .int .u64⟩,
  some ⟨1, 8, .nilFunc, .other⟩,
  some ⟨1, 8, .nilFunc, .other⟩,
  some ⟨1, 8, .nilFunc, .other⟩,
  some ⟨1, 8, .pointer none, .ptr⟩,
  some ⟨1, 8, .nilFunc, .other⟩,
  some ⟨24, 24, .agg #[.int .u8 0, .int .u8 0, .int .u8 0, .int .u8 0, .int .u8 0, .int .u8 0, .int .u8 0, .int .u8 0, .int .u8 0, .int .u8 0, .int .u8 0, .int .u8 0, .int .u8 0, .int .u8 0, .int .u8 0, .int .u8 0, .int .u8 0, .int .u8 0, .int .u8 0, .int .u8 0, .int .u8 0, .int .u8 0, .int .u8 0, .int .u8 0], .array 24 5⟩,
  some ⟨1, 8, .nilFunc, .other⟩,
  none,
  some ⟨1, 8, .nilFunc, .other⟩,
  some ⟨1, 8, .pointer none, .ptr⟩,
  none,
  some ⟨1, 8, .nilFunc, .other⟩,
  some ⟨1, 8, .nilFunc, .other⟩,
  some ⟨1, 8, .nilFunc, .other⟩,
  some ⟨20, 160, .agg #[.int .u64 0, .int .u64 0, .int .u64 0, .int .u64 0, .int .u64 0, .int .u64 0, .int .u64 0, .int .u64 0, .int .u64 0, .int .u64 0, .int .u64 0, .int .u64 0, .int .u64 0, .int .u64 0, .int .u64 0, .int .u64 0, .int .u64 0, .int .u64 0, .int .u64 0, .int .u64 0], .array 20 134⟩,
  none,
  some ⟨1, 8, .nilFunc, .other⟩,
  some ⟨32, 32, .agg #[.int .u8 0, .int .u8 0, .int .u8 0, .int .u8 0, .int .u8 0, .int .u8 0, .int .u8 0, .int .u8 0, .int .u8 0, .int .u8 0, .int .u8 0, .int .u8 0, .int .u8 0, .int .u8 0, .int .u8 0, .int .u8 0, .int .u8 0, .int .u8 0, .int .u8 0, .int .u8 0, .int .u8 0, .int .u8 0, .int .u8 0, .int .u8 0, .int .u8 0, .int .u8 0, .int .u8 0, .int .u8 0, .int .u8 0, .int .u8 0, .int .u8 0, .int .u8 0], .array 32 5⟩,
  some ⟨64, 64, .agg #[.int .u8 0, .int .u8 0, .int .u8 0, .int .u8 0, .int .u8 0, .int .u8 0, .int .u8 0, .int .u8 0, .int .u8 0, .int .u8 0, .int .u8 0, .int .u8 0, .int .u8 0, .int .u8 0, .int .u8 0, .int .u8 0, .int .u8 0, .int .u8 0, .int .u8 0, .int .u8 0, .int .u8 0, .int .u8 0, .int .u8 0, .int .u8 0, .int .u8 0, .int .u8 0, .int .u8 0, .int .u8 0, .int .u8 0, .int .u8 0, .int .u8 0, .int .u8 0, .int .u8 0, .int .u8 0, .int .u8 0, .int .u8 0, .int .u8 0, .int .u8 0, .int .u8 0, .int .u8 0, .int .u8 0, .int .u8 0, .int .u8 0, .int .u8 0, .int .u8 0, .int .u8 0, .int .u8 0, .int .u8 0, .int .u8 0, .int .u8 0, .int .u8 0, .int .u8 0, .int .u8 0, .int .u8 0, .int .u8 0, .int .u8 0, .int .u8 0, .int .u8 0, .int .u8 0, .int .u8 0, .int .u8 0, .int .u8 0, .int .u8 0, .int .u8 0], .array 64 5⟩,
  some ⟨1, 8, .nilFunc, .other⟩,
  some ⟨4, 40, .agg #[.pointer none, .pointer none, .pointer none, .string .empty], .struct [(0, 17), (1, 17), (2, 17), (3, 9)]⟩,
  some ⟨4, 40, .agg #[.pointer none, .pointer none, .pointer none, .string .empty], .struct [(0, 17), (1, 17), (2, 17), (3, 9)]⟩,
  some ⟨0, 0, .agg #[], .array 0 16⟩,
  some ⟨0, 0, .agg #[], .struct [(0, 160)]⟩,
  some ⟨0, 0, .agg #[], .struct [(0, 160)]⟩,
  some ⟨1, 8, .nilFunc, .other⟩,
  some ⟨1, 1, .int .u8 0, .int .u8⟩,
  some ⟨1, 1, .int .u8 0, .int .u8⟩,
  some ⟨1, 8, .nilFunc, .other⟩,
  some ⟨1, 8, .pointer none, .ptr⟩,
  some ⟨1, 4, .int .i32 0, .int .i32⟩,
  some ⟨1, 4, .int .i32 0, .int .i32⟩,
  some ⟨11, 48, .agg #[.int .u64 0, .int .u64 0, .int .u32 0, .int .u8 0, .int .u8 0, .int .u8 0, .int .u8 0, .nilFunc, .pointer none, .int .i32 0, .int .i32 0], .struct [(0, 12), (1, 12), (2, 132), (3, 164), (4, 5), (5, 5), (6, 165), (7, 166), (8, 167), (9, 168), (10, 169)]⟩,
  some ⟨11, 48, .agg #[.int .u64 0, .int .u64 0, .int .u32 0, .int .u8 0, .int .u8 0, .int .u8 0, .int .u8 0, .nilFunc, .pointer none, .int .i32 0, .int .i32 0], .struct [(0, 12), (1, 12), (2, 132), (3, 164), (4, 5), (5, 5), (6, 165), (7, 166), (8, 167), (9, 168), (10, 169)]⟩,
  none]
theorem tyAll : allTy Tryd.prog 0 tyTab := ⟨ty_1, ty_2, ty_3, ty_4, ty_5, ty_6, ty_7, ty_8, ty_9, ty_10, ty_11, ty_12, ty_13, ty_14, ty_15, ty_16, ty_17, ty_18, ty_19, ty_20, ty_21, ty_22, ty_23, ty_24, ty_25, ty_26, ty_27, ty_28, ty_29, ty_30, ty_31, ty_32, ty_33, ty_34, ty_35, ty_36, ty_37, ty_38, ty_40, ty_42, ty_43, ty_44, ty_45, ty_46, ty_47, ty_48, ty_49, ty_50, ty_51, ty_52, ty_53, ty_54, ty_55, ty_56, ty_57, ty_58, ty_59, ty_60, ty_61, ty_62, ty_63, ty_64, ty_65, ty_66, ty_67, ty_68, ty_70, ty_71, ty_72, ty_73, ty_74, ty_75, ty_76, ty_77, ty_78, ty_79, ty_80, ty_81, ty_82, ty_83, ty_84, ty_86, ty_87, ty_88, ty_89, ty_90, ty_91, ty_92, ty_93, ty_94, ty_95, ty_96, ty_97, ty_98, ty_99, ty_100, ty_101, ty_102, ty_103, ty_104, ty_105, ty_106, ty_107, ty_108, ty_110, ty_111, ty_112, ty_114, ty_115, ty_116, ty_117, ty_118, ty_119, ty_120, ty_121, ty_122, ty_123, ty_124, ty_126, ty_127, ty_128, ty_130, ty_131, ty_132, ty_133, ty_134, ty_135, ty_136, ty_137, ty_138, ty_139, ty_140, ty_141, ty_142, ty_143, ty_144, ty_146, ty_147, ty_149, ty_150, ty_151, ty_152, ty_154, ty_155, ty_156, ty_157, ty_158, ty_159, ty_160, ty_161, ty_162, ty_163, ty_164, ty_165, ty_166, ty_167, ty_168, ty_169, ty_170, ty_171, trivial⟩
theorem tyTab_ok (t : Nat) (ti : TI) (h : tyTab[t]? = some (some ti)) : TyOk Tryd.prog t ti := by
  have := allTy_at tyAll t ti h
  rwa [Nat.zero_add] at this
end Go.Proofs.YtflgpccacloadaaDoor.Am
/- The abstract machine: cells of numbers, facts, nogoods. -/
namespace Go.Proofs.YtflgpccacloadaaDoor.Am
open Go.RowKit

def cI (z : Int) : List AV := [.c (.int .i64 z)]
def cF (x : Fact) : List AV := [.c (.int .i64 x.1), .c (.int .i64 x.2)]
def cN (x : Nogood) : List AV := [.sl 2 (x.1.map cF), .c (.int .i64 x.2)]
theorem wrap_eq {z : Int} (h1 : -9223372036854775808 ≤ z) (h2 : z ≤ 9223372036854775807) : IntKind.i64.wrap z = z := by
  rw [IntKind.wrap_i64]
  omega
theorem map_at' {α β : Type} {l : List α} {f : α → β} {k : Nat} {x : α} (h : l[k]? = some x) : (l.map f)[k]? = some (f x) := by
  rw [List.getElem?_map, h]
  rfl
theorem FrL_map {α : Type} {l : List α} {f : α → List AV} (h : ∀ x ∈ l, ∀ y ∈ f x, Fr y) : FrL (l.map f) := by
  intro e he y hy
  obtain ⟨x, hx, rfl⟩ := List.mem_map.1 he
  exact h x hx y hy
theorem fr_cF (x : Fact) : ∀ y ∈ cF x, Fr y := by
  intro y hy
  simp [cF] at hy
  rcases hy with rfl | rfl <;> exact .c _
theorem frl_cF (l : List Fact) : FrL (l.map cF) := FrL_map (fun x _ => fr_cF x)
theorem fr_cN (x : Nogood) : ∀ y ∈ cN x, Fr y := by
  intro y hy
  simp [cN] at hy
  rcases hy with rfl | rfl
  · exact .sl (frl_cF _)
  · exact .c _
theorem frl_cN (l : List Nogood) : FrL (l.map cN) := FrL_map (fun x _ => fr_cN x)
theorem frl_cI (l : List Int) : FrL (l.map cI) := FrL_map (fun x _ y hy => by simp [cI] at hy; subst hy; exact .c _)
theorem FrL_append {a b : List (List AV)} (h1 : FrL a) (h2 : FrL b) : FrL (a ++ b) := by
  intro e he
  rcases List.mem_append.1 he with h | h
  · exact h1 e h
  · exact h2 e h

theorem get_map {α β : Type} {l : List α} {f : α → β} {k : Nat} {e : β} (h : (l.map f)[k]? = some e) : ∃ x, l[k]? = some x ∧ e = f x := by
  rw [List.getElem?_map] at h
  cases hx : l[k]? with
  | none => rw [hx] at h; cases h
  | some x => rw [hx] at h; simp at h; exact ⟨x, rfl, h.symm⟩

end Go.Proofs.YtflgpccacloadaaDoor.Am
/- Words of the models that my decompiler prints, and what their proofs use: choices, guards, elements, calls, parts of code. -/
namespace Go.Proofs.YtflgpccacloadaaDoor.Am
open Go.RowKit

def sel {α : Type} (b : Bool) (x y : Option α) : Option α :=
  match b with
  | true => x
  | false => y
def grd {α : Type} (p : Prop) [Decidable p] (x : Option α) : Option α := if p then x else none
def ixn {α β : Type} (l : List α) (i : Nat) (k : α → Option β) : Option β :=
  match l[i]? with
  | some y => k y
  | none => none
def ix {α β : Type} (l : List α) (i : Int) (k : α → Option β) : Option β := ixn l i.toNat (fun y => grd (0 ≤ i) (k y))
def opM {α β : Type} (o : Option α) (x : Option β) (k : α → Option β) : Option β :=
  match o with
  | none => x
  | some y => k y
theorem opM_none {α β : Type} {x : Option β} {k : α → Option β} {z : β} (h : opM none x k = some z) : x = some z := h
theorem opM_some {α β : Type} {y : α} {x : Option β} {k : α → Option β} {z : β} (h : opM (some y) x k = some z) : k y = some z := h
def ob1 {α β : Type} (x : Option α) (k : α → Option β) : Option β :=
  match x with
  | some a => k a
  | none => none
def ob2 {α β γ : Type} (x : Option (α × β)) (k : α → β → Option γ) : Option γ :=
  match x with
  | some (a, b) => k a b
  | none => none
def ob3 {α β γ δ : Type} (x : Option (α × β × γ)) (k : α → β → γ → Option δ) : Option δ :=
  match x with
  | some (a, b, c) => k a b c
  | none => none
def osum {α β γ : Type} (f : α → Option γ) (g : β → Option γ) : α ⊕ β → Option γ
  | .inl a => f a
  | .inr b => g b
/-- errors: none, or one of the document's by its number -/
inductive Er where
  | nil
  | no (z : Int)
  deriving DecidableEq
def eA : Er → AV
  | .nil => .c .nilIface
  | .no z => .ifc 63 (.c (.int .i64 z))
def erM {α : Type} (e : Er) (x : Option α) (k : Int → Option α) : Option α :=
  match e with
  | .nil => x
  | .no z => k z
section
variable {α β γ δ ε : Type}
theorem sel_t {b : Bool} {x y z : Option α} (hb : b = true) (h : sel b x y = z) : x = z := by subst hb; exact h
theorem sel_f {b : Bool} {x y z : Option α} (hb : b = false) (h : sel b x y = z) : y = z := by subst hb; exact h
theorem spl {b : Bool} {x y z : Option α} {P Q : Prop} (h : sel b x y = z) (t : b = true → x = z → P) (f : b = false → y = z → Q) : (b = true → P) ∧ (b = false → Q) := ⟨fun hb => t hb (sel_t hb h), fun hb => f hb (sel_f hb h)⟩
theorem spf {b : Bool} {x y z : Option α} {P Q : Prop} (h : sel b x y = z) (f : b = false → y = z → Q) (t : b = true → x = z → P) : (b = false → Q) ∧ (b = true → P) := ⟨fun hb => f hb (sel_f hb h), fun hb => t hb (sel_t hb h)⟩
theorem litT {P Q : Prop} (h : P) : (true = true → P) ∧ (true = false → Q) := ⟨fun _ => h, fun e => (by cases e)⟩
theorem litF {P Q : Prop} (h : Q) : (false = true → P) ∧ (false = false → Q) := ⟨fun e => (by cases e), fun _ => h⟩
theorem grd_ok {p : Prop} [Decidable p] {x : Option α} {z : α} (h : grd p x = some z) : p ∧ x = some z := by
  unfold grd at h
  split at h
  · exact ⟨by assumption, h⟩
  · cases h
theorem ixn_ok {l : List α} {i : Nat} {k : α → Option β} {z : β} (h : ixn l i k = some z) : ∃ y, l[i]? = some y ∧ k y = some z := by
  unfold ixn at h
  split at h
  · exact ⟨_, by assumption, h⟩
  · cases h
theorem ix_ok {l : List α} {i : Int} {k : α → Option β} {z : β} (h : ix l i k = some z) : ∃ y, l[i.toNat]? = some y ∧ 0 ≤ i ∧ k y = some z := by
  obtain ⟨y, h1, h2⟩ := ixn_ok h
  obtain ⟨h3, h4⟩ := grd_ok h2
  exact ⟨y, h1, h3, h4⟩
theorem ob1_ok {x : Option α} {k : α → Option β} {z : β} (h : ob1 x k = some z) : ∃ a, x = some a ∧ k a = some z := by
  match x, h with
  | some a, h => exact ⟨a, rfl, h⟩
theorem ob2_ok {x : Option (α × β)} {k : α → β → Option γ} {z : γ} (h : ob2 x k = some z) : ∃ a b, x = some (a, b) ∧ k a b = some z := by
  match x, h with
  | some (a, b), h => exact ⟨a, b, rfl, h⟩
theorem ob3_ok {x : Option (α × β × γ)} {k : α → β → γ → Option δ} {z : δ} (h : ob3 x k = some z) : ∃ a b c, x = some (a, b, c) ∧ k a b c = some z := by
  match x, h with
  | some (a, b, c), h => exact ⟨a, b, c, rfl, h⟩
theorem osum_l {f : α → Option γ} {g : β → Option γ} {a : α} {z : Option γ} (h : osum f g (.inl a) = z) : f a = z := h
theorem osum_r {f : α → Option γ} {g : β → Option γ} {b : β} {z : Option γ} (h : osum f g (.inr b) = z) : g b = z := h
theorem erM_nil {x : Option α} {k : Int → Option α} {z : Option α} (h : erM .nil x k = z) : x = z := h
theorem erM_no {x : Option α} {k : Int → Option α} {e : Int} {z : Option α} (h : erM (.no e) x k = z) : k e = z := h
theorem succ_of {f : Nat → Option α} {n : Nat} {o : α} (h0 : f 0 = none) (h : f n = some o) : ∃ k, n = k + 1 ∧ f (k + 1) = some o := by
  cases n with
  | zero => rw [h0] at h; cases h
  | succ k => exact ⟨k, rfl, h⟩
theorem ltS {n k : Nat} (h : n = k + 1) : k < n := by omega
theorem inj1 {a b : α} (h : some a = some b) : a = b := Option.some.inj h
theorem inj2 {a a' : α} {b b' : β} (h : some (a, b) = some (a', b')) : a = a' ∧ b = b' := by injection h with h; injection h with h1 h2; exact ⟨h1, h2⟩
theorem inj3 {a a' : α} {b b' : β} {c c' : γ} (h : some (a, b, c) = some (a', b', c')) : a = a' ∧ b = b' ∧ c = c' := by injection h with h; injection h with h1 h2; injection h2 with h2 h3; exact ⟨h1, h2, h3⟩
end

section
variable {C : Cx} {Q : Exit → St → Prop} {s : St}
/-- a part of the code on its own: behind it stands one of the states of a family -/
theorem awp_cut {α : Type} {x y : Code} (I : α → St) (P : α → Prop) (h1 : AWP C x (thenA (fun s' => ∃ v, P v ∧ leK s' (I v) True) Q) s)
    (h2 : ∀ v, P v → forceK (I v).tm (fun tm => forceK (I v).hp (fun hp => True → AWP C y Q ⟨tm, hp⟩))) : AWP C (.seq x y) Q s := by
  refine aSq (awp_mono h1 (fun e s' h => ?_))
  cases e <;> first | exact h | skip
  obtain ⟨v, hp, hl⟩ := h
  have h3 := forceK_ok (forceK_ok (h2 v hp)) trivial
  exact awp_le hl h3
end

/-- no handle of the call's own -/
theorem FrL_nil : FrL [] := fun e he => by cases he
theorem FrL_cons {e : List AV} {l : List (List AV)} (h1 : ∀ y ∈ e, Fr y) (h2 : FrL l) : FrL (e :: l) := by
  intro a ha
  rcases List.mem_cons.1 ha with rfl | h
  · exact h1
  · exact h2 a h
theorem FrC_nil : ∀ y ∈ ([] : List AV), Fr y := fun y hy => by cases hy
theorem FrC_cons {x : AV} {r : List AV} (h1 : Fr x) (h2 : ∀ y ∈ r, Fr y) : ∀ y ∈ x :: r, Fr y := by
  intro a ha
  rcases List.mem_cons.1 ha with rfl | h
  · exact h1
  · exact h2 a h
theorem FrL_set {l : List (List AV)} {k : Nat} {e : List AV} (h1 : FrL l) (h2 : ∀ y ∈ e, Fr y) : FrL (l.set k e) := by
  intro a ha
  rcases List.mem_or_eq_of_mem_set ha with h | rfl
  · exact h1 a h
  · exact h2
theorem fr_eA (e : Er) : Fr (eA e) := by
  cases e
  · exact .c _
  · exact .ifc (.c _)
theorem fr0_eA (e : Er) : fr0 (eA e) := by cases e <;> first | trivial | exact .ifc (.c _)
theorem fr1_eA (e : Er) : fr1 (eA e) := by cases e <;> first | trivial | exact .ifc (.c _)
theorem fr1_fr {x : AV} (h : Fr x) : fr1 x := by
  cases h with
  | agg h =>
    rename_i cs
    show frs0 cs
    induction cs with
    | nil => trivial
    | cons y r ih => exact ⟨by have := h y (by simp); unfold fr0; split <;> first | trivial | exact this, ih (fun z hz => h z (by simp [hz]))⟩
  | tup h =>
    rename_i cs
    show frs0 cs
    induction cs with
    | nil => trivial
    | cons y r ih => exact ⟨by have := h y (by simp); unfold fr0; split <;> first | trivial | exact this, ih (fun z hz => h z (by simp [hz]))⟩
  | c v => trivial
  | sl h => trivial
  | pim h => exact .pim h
  | clo h1 h2 => exact .clo h1 h2
  | ifc h => exact .ifc h
  | mpi h => exact .mpi h
theorem take_len_map {α β : Type} {l : List α} {f : α → β} : (l.map f).take l.length = l.map f := List.take_of_length_le (Nat.le_of_eq (List.length_map _))
/-- the same, found by instances -/
class FrI (l : List (List AV)) : Prop where
  h : FrL l
class FrE (e : List AV) : Prop where
  h : ∀ y ∈ e, Fr y
class FrV (x : AV) : Prop where
  h : Fr x
instance : FrI [] := ⟨FrL_nil⟩
instance {e : List AV} {l : List (List AV)} [a : FrE e] [b : FrI l] : FrI (e :: l) := ⟨FrL_cons a.h b.h⟩
instance {l r : List (List AV)} [a : FrI l] [b : FrI r] : FrI (l ++ r) := ⟨FrL_append a.h b.h⟩
instance {l : List (List AV)} {k : Nat} {e : List AV} [a : FrI l] [b : FrE e] : FrI (l.set k e) := ⟨FrL_set a.h b.h⟩
instance {l : List (List AV)} {k : Nat} [a : FrI l] : FrI (l.take k) := ⟨fun e he => a.h e (List.mem_of_mem_take he)⟩
instance {l : List (List AV)} {k : Nat} [a : FrI l] : FrI (l.drop k) := ⟨fun e he => a.h e (List.mem_of_mem_drop he)⟩
instance : FrE [] := ⟨FrC_nil⟩
instance {x : AV} {r : List AV} [a : FrV x] [b : FrE r] : FrE (x :: r) := ⟨FrC_cons a.h b.h⟩
instance {v : Value} : FrV (.c v) := ⟨.c v⟩
instance {l : List (List AV)} [h : FrI l] : FrV (.mpi l) := ⟨.mpi h.h⟩
instance {sz : Nat} {l : List (List AV)} [a : FrI l] : FrV (.sl sz l) := ⟨.sl a.h⟩
instance {t : Nat} {x : AV} [a : FrV x] : FrV (.ifc t x) := ⟨.ifc a.h⟩
instance {e : Er} : FrV (eA e) := ⟨fr_eA e⟩
instance {cs : List AV} [a : FrE cs] : FrV (.agg cs) := ⟨.agg a.h⟩
instance {e : List AV} {j : Nat} [a : FrE e] : FrV (.pim e j) := ⟨.pim a.h⟩
instance {f : Fn} {cs ds : List AV} [a : FrE cs] [b : FrE ds] : FrV (.clo f cs ds) := ⟨.clo a.h b.h⟩
instance {l : List Fact} : FrI (l.map cF) := ⟨frl_cF l⟩
instance {l : List Nogood} : FrI (l.map cN) := ⟨frl_cN l⟩
instance {l : List Int} : FrI (l.map cI) := ⟨frl_cI l⟩
def cS (x : ByteArray) : List AV := [.c (.string x)]
theorem fr_cS (x : ByteArray) : ∀ y ∈ cS x, Fr y := FrC_cons (.c _) FrC_nil
theorem frl_cS (l : List ByteArray) : FrL (l.map cS) := FrL_map (fun x _ => fr_cS x)
instance {l : List ByteArray} : FrI (l.map cS) := ⟨frl_cS l⟩
def cB (x : Bool) : List AV := [.c (.bool x)]
theorem fr_cB (x : Bool) : ∀ y ∈ cB x, Fr y := FrC_cons (.c _) FrC_nil
theorem frl_cB (l : List Bool) : FrL (l.map cB) := FrL_map (fun x _ => fr_cB x)
instance {l : List Bool} : FrI (l.map cB) := ⟨frl_cB l⟩
def c_u8 (x : Int) : List AV := [.c (.int .u8 x)]
theorem fr_c_u8 (x : Int) : ∀ y ∈ c_u8 x, Fr y := FrC_cons (.c _) FrC_nil
theorem frl_c_u8 (l : List Int) : FrL (l.map c_u8) := FrL_map (fun x _ => fr_c_u8 x)
instance {l : List Int} : FrI (l.map c_u8) := ⟨frl_c_u8 l⟩
end Go.Proofs.YtflgpccacloadaaDoor.Am
/- An abstract machine (4): calls that get own memory (lent, or given away), closures, make, equality of structs of two numbers. -/
namespace Go.Proofs.YtflgpccacloadaaDoor.Am
open Go.RowKit
/-- some blocks are no more -/
def dropB (η : Nat → Ent) (bs : List Nat) : Nat → Ent := fun i => if i ∈ bs then ⟨(η i).ver, none⟩ else η i
theorem drop_in {η : Nat → Ent} {bs : List Nat} {i : Nat} (h : i ∈ bs) : (dropB η bs i).blk = none := by simp [dropB, h]
theorem drop_out {η : Nat → Ent} {bs : List Nat} {i : Nat} (h : i ∉ bs) : dropB η bs i = η i := by simp [dropB, h]
theorem in_of_drop {η : Nat → Ent} {bs : List Nat} {i ver : Nat} {B : Blk} (h1 : η i = ⟨ver, some B⟩) (h2 : (dropB η bs i).blk = none) : i ∈ bs := by
  by_cases h : i ∈ bs
  · exact h
  · rw [drop_out h, h1] at h2; cases h2
theorem BW.congr {η η1 : Nat → Ent} {bs : List Nat} (h : ∀ i ∈ bs, η1 i = η i) {x y : AV} (hb : BW η (dropB η bs) x y) : BW η1 (dropB η1 bs) x y := by
  induction hb with
  | cv h hf => exact .cv h hf
  | mpf hM h1 h2 hf he =>
    have hi := in_of_drop h1 h2
    exact .mpf hM (by rw [h _ hi, h1]) (drop_in hi) hf he
  | fr h => exact .fr h
  | sl => exact .sl
  | nil => exact .nil
  | own h1 h2 hs hl hl2 _ hkl hfr hmax he ih =>
    have hi := in_of_drop h1 h2
    exact .own (by rw [h _ hi, h1]) (drop_in hi) hs hl hl2 ih hkl hfr hmax he
  | ptr hM h1 h2 he hl _ ih =>
    have hi := in_of_drop h1 h2
    exact .ptr hM (by rw [h _ hi, h1]) (drop_in hi) he hl ih
  | agg hl _ ih => exact .agg hl ih
  | clo hl _ hl2 _ ih ih2 => exact .clo hl ih hl2 ih2
/-- what it becomes holds no own memory -/
theorem BW.free {η η' : Nat → Ent} {w : World} {vs : Shp} {m : MM} {x y : AV} (hb : BW η η' x y) : ∀ {v : Value}, RV w vs m y v → Fr y := by
  induction hb with
  | cv _ hf => exact fun _ => hf
  | mpf _ _ _ hf he => exact fun _ => by rw [he]; exact .mpi hf
  | fr h => exact fun _ => h
  | sl =>
    intro v hv
    obtain ⟨_, _, _, _, _, _, _, _, _, _, _, _, hfr⟩ := rv_sl hv
    exact .sl hfr
  | nil => exact fun _ => .sl FrL_nil
  | own h1 h2 hs hl hl2 _ hkl hfr hmax he ih => intro v hv; rw [he]; exact .sl (fun e he' => hfr e (List.mem_of_mem_drop (List.mem_of_mem_take he')))
  | @ptr i ver k j0 B e e' _ h1 h2 he hl _ ih =>
    intro v hv
    obtain ⟨b, off, f, _, _, _, _, hr⟩ := rv_pim hv
    refine .pim (fun x' hx' => ?_)
    obtain ⟨j, hj⟩ := List.getElem?_of_mem hx'
    have hlt : j < e.length := by rw [← hl]; exact (List.getElem?_eq_some_iff.1 hj).1
    exact ih j _ x' (List.getElem?_eq_getElem hlt) hj (hr j x' hj)
  | agg hl _ ih =>
    intro v hv
    obtain ⟨us, rfl, hlen, hr⟩ := rv_agg hv
    refine .agg (fun x' hx' => ?_)
    obtain ⟨j, hj⟩ := List.getElem?_of_mem hx'
    have hlt := (List.getElem?_eq_some_iff.1 hj).1
    exact ih j _ x' (List.getElem?_eq_getElem (by omega)) hj (hr j x' us[j] hj (Array.getElem?_eq_getElem (by omega)))
  | clo hl _ hl2 _ ih ih2 =>
    intro v hv
    obtain ⟨us, us', rfl, l1, r1, l2, r2⟩ := rv_clo hv
    refine .clo (fun x' hx' => ?_) (fun x' hx' => ?_)
    · obtain ⟨j, hj⟩ := List.getElem?_of_mem hx'
      have hlt := (List.getElem?_eq_some_iff.1 hj).1
      exact ih j _ x' (List.getElem?_eq_getElem (by omega)) hj (r1 j x' us[j] hj (Array.getElem?_eq_getElem (by omega)))
    · obtain ⟨j, hj⟩ := List.getElem?_of_mem hx'
      have hlt := (List.getElem?_eq_some_iff.1 hj).1
      exact ih2 j _ x' (List.getElem?_eq_getElem (by omega)) hj (r2 j x' us'[j] hj (Array.getElem?_eq_getElem (by omega)))
/-- lists of such values -/
inductive BWL (η η' : Nat → Ent) : List AV → List AV → Prop
  | nil : BWL η η' [] []
  | cons {x y : AV} {r s : List AV} : BW η η' x y → BWL η η' r s → BWL η η' (x :: r) (y :: s)
section
variable {η η' : Nat → Ent}
theorem BWL.len {xs ys : List AV} (h : BWL η η' xs ys) : xs.length = ys.length := by
  induction h with
  | nil => rfl
  | cons _ _ ih => simp [ih]
theorem BWL.at {xs ys : List AV} (h : BWL η η' xs ys) : ∀ (j : Nat) (x y : AV), xs[j]? = some x → ys[j]? = some y → BW η η' x y := by
  induction h with
  | nil => intro j x y hx; simp at hx
  | cons h1 _ ih =>
    intro j x y hx hy
    cases j with
    | zero => simp at hx hy; subst hx hy; exact h1
    | succ j => exact ih j x y (by simpa using hx) (by simpa using hy)
def BWLL (η η' : Nat → Ent) (els els' : List (List AV)) : Prop := els'.length = els.length ∧ ∀ (k : Nat) (e e' : List AV), els[k]? = some e → els'[k]? = some e' → e'.length = e.length ∧ ∀ (j : Nat) (x x' : AV), e[j]? = some x → e'[j]? = some x' → BW η η' x x'
theorem bwll_fr {els : List (List AV)} (h : FrL els) : BWLL η η' els els := by
  refine ⟨rfl, fun k e e' h1 h2 => ?_⟩
  rw [h1] at h2
  injection h2 with h2
  subst h2
  refine ⟨rfl, fun j x x' h3 h4 => ?_⟩
  rw [h3] at h4
  injection h4 with h4
  subst h4
  exact .fr (h e (List.mem_of_getElem? h1) x (List.mem_of_getElem? h3))
theorem bwll_cons {e e' : List AV} {r r' : List (List AV)} (h1 : BWL η η' e e') (h2 : BWLL η η' r r') : BWLL η η' (e :: r) (e' :: r') := by
  refine ⟨by simp [h2.1], fun k q q' hq hq' => ?_⟩
  cases k with
  | zero => simp at hq hq'; subst hq hq'; exact ⟨h1.len.symm, h1.at⟩
  | succ k => exact h2.2 k q q' (by simpa using hq) (by simpa using hq')
theorem bwll_append {a a' b b' : List (List AV)} (h1 : BWLL η η' a a') (h2 : BWLL η η' b b') : BWLL η η' (a ++ b) (a' ++ b') := by
  refine ⟨by simp [h1.1, h2.1], fun k q q' hq hq' => ?_⟩
  rw [List.getElem?_append] at hq hq'
  rw [h1.1] at hq'
  split at hq
  · rename_i hlt
    rw [if_pos hlt] at hq'
    exact h1.2 k q q' hq hq'
  · rename_i hlt
    rw [if_neg hlt] at hq'
    exact h2.2 _ q q' hq hq'
theorem bwll_set {a a' : List (List AV)} {e e' : List AV} {k k' : Nat} (hk : k = k') (h1 : BWLL η η' a a') (h2 : BWL η η' e e') : BWLL η η' (a.set k e) (a'.set k' e') := by
  subst hk
  refine ⟨by simp [h1.1], fun i q q' hq hq' => ?_⟩
  by_cases hi : i = k
  · subst hi
    have hlt : i < a.length := by have := (List.getElem?_eq_some_iff.1 hq).1; simpa using this
    rw [List.getElem?_set_self hlt] at hq
    rw [List.getElem?_set_self (by rw [h1.1]; exact hlt)] at hq'
    simp at hq hq'
    subst hq hq'
    exact ⟨h2.len.symm, h2.at⟩
  · rw [List.getElem?_set_ne (fun e => hi e.symm)] at hq hq'
    exact h1.2 i q q' hq hq'
theorem bw_own {i ver k len sz : Nat} {B : Blk} {l : List (List AV)} (h1 : η i = ⟨ver, some B⟩) (h2 : (η' i).blk = none) (hs : B.sz = sz) (hkl : k + len ≤ B.els.length) (hfr : FrL B.els) (hmax : len ≤ 140737488355328) (hl : l = (B.els.drop k).take len) : BW η η' (.own i ver k len) (.sl sz l) :=
  .own h1 h2 hs rfl (fun k e e' q1 q2 => ((bwll_fr (η := η) (η' := η') hfr).2 k e e' q1 q2).1) (fun k e e' q1 q2 => ((bwll_fr hfr).2 k e e' q1 q2).2) hkl hfr hmax hl
theorem bw_own2 {i ver k len sz : Nat} {B : Blk} {els' l : List (List AV)} (h1 : η i = ⟨ver, some B⟩) (h2 : (η' i).blk = none) (hs : B.sz = sz) (hw : BWLL η η' B.els els') (hkl : k + len ≤ els'.length) (hfr : FrL els') (hmax : len ≤ 140737488355328) (hl : l = (els'.drop k).take len) : BW η η' (.own i ver k len) (.sl sz l) :=
  .own h1 h2 hs hw.1 (fun k e e' q1 q2 => (hw.2 k e e' q1 q2).1) (fun k e e' q1 q2 => (hw.2 k e e' q1 q2).2) hkl hfr hmax hl
theorem bwll_same {els els' : List (List AV)} (h : els = els') (hf : FrL els) : BWLL η η' els els' := by subst h; exact bwll_fr hf
theorem bw_own3 {i ver len sz : Nat} {B : Blk} {l : List (List AV)} (h1 : η i = ⟨ver, some B⟩) (h2 : (η' i).blk = none) (hs : B.sz = sz) (hfr : FrL l) (hw : BWLL η η' B.els l) (hlen : len = l.length) (hmax : len ≤ 140737488355328) : BW η η' (.own i ver 0 len) (.sl sz l) :=
  bw_own2 h1 h2 hs hw (by omega) hfr hmax (by rw [List.drop_zero, hlen, List.take_length])
theorem bw_ptr {i ver k j : Nat} {B : Blk} {e e' : List AV} (h1 : η i = ⟨ver, some B⟩) (h2 : (η' i).blk = none) (he : B.els[k]? = some e) (hw : BWL η η' e e') (hM : isM B.box B.ty = false := by rfl) : BW η η' (.ptr i ver k j) (.pim e' j) := .ptr hM h1 h2 he hw.len.symm hw.at
theorem bw_agg {cs cs' : List AV} (h : BWL η η' cs cs') : BW η η' (.agg cs) (.agg cs') := .agg h.len h.at
theorem bw_clo {f : Fn} {ds ds' : List AV} (h : BWL η η' ds ds') : BW η η' (.clo f [] ds) (.clo f [] ds') := .clo rfl (fun j x x' hx => by simp at hx) h.len h.at
theorem bw_c {v : Value} : BW η η' (.c v) (.c v) := .fr (.c v)
theorem bwl_congr {bs : List Nat} {η1 : Nat → Ent} (h : ∀ i ∈ bs, η1 i = η i) {xs ys : List AV} (hb : BWL η (dropB η bs) xs ys) : BWL η1 (dropB η1 bs) xs ys := by
  induction hb with
  | nil => exact .nil
  | cons h1 _ ih => exact .cons (h1.congr h) ih
end
/-- no memory in it -/
def scal0 : AV → Prop
  | .c _ => True
  | .ifc _ (.c _) => True
  | _ => False
def scalL : List AV → Prop
  | [] => True
  | x :: r => scal0 x ∧ scalL r
def scal : AV → Prop
  | .tup cs => scalL cs
  | .agg cs => scalL cs
  | x => scal0 x
theorem scal0_eA (e : Er) : scal0 (eA e) := by cases e <;> trivial
theorem scal_eA (e : Er) : scal (eA e) := by cases e <;> trivial
theorem rv_scal0 {w w' : World} {vs vs' : Shp} {m m' : MM} {x : AV} {v : Value} (hx : scal0 x) (h : RV w vs m x v) : RV w' vs' m' x v := by
  unfold scal0 at hx
  split at hx
  · rw [rv_c h]; exact .c _
  · obtain ⟨u, rfl, h1⟩ : ∃ u, v = .iface _ u ∧ RV w vs m _ u := by cases h with | ifc h => exact ⟨_, rfl, h⟩
    rw [rv_c h1]
    exact .ifc (.c _)
  · exact hx.elim
theorem scalL_at : ∀ {l : List AV} {j : Nat} {x : AV}, scalL l → l[j]? = some x → scal0 x
  | [], _, _, _, h => by simp at h
  | y :: r, 0, x, h, hx => by simp at hx; subst hx; exact h.1
  | y :: r, j + 1, x, h, hx => scalL_at (l := r) (j := j) h.2 (by simpa using hx)
theorem rv_scal {w w' : World} {vs vs' : Shp} {m m' : MM} {x : AV} {v : Value} (hx : scal x) (h : RV w vs m x v) : RV w' vs' m' x v := by
  unfold scal at hx
  split at hx
  · obtain ⟨us, rfl, h1, h2⟩ := rv_tup h
    exact .tup h1 (fun j y u hy hu => rv_scal0 (scalL_at hx hy) (h2 j y u hy hu))
  · obtain ⟨us, rfl, h1, h2⟩ := rv_agg h
    exact .agg h1 (fun j y u hy hu => rv_scal0 (scalL_at hx hy) (h2 j y u hy hu))
  · exact rv_scal0 hx h

section
variable {C : Cx} {n : Nat}
/-- the callee's view of a state that lends some blocks -/
theorem lend {f : FuncId} {r : AV} {τ' : Nat → AV} {η' : Nat → Ent} {bs : List Nat} {os : Array Operand} {ys : List AV} {w0 : World} {X : XX} {m : MM} {a : Act} {w : World} (h : Rep C n w0 X τ' η' m a w)
    (hb : BWL η' (dropB η' bs) (os.toList.map (evA τ')) ys) (hc : ACall C f ys r) :
    Calls C.P f (os.map a.eval) w (fun e w' => ∃ v, e = .returned v ∧ RV w' nov (mO (Owned (shp (dropB η' bs)) (mwk η' (dropB η' bs) m))) r v ∧ Kin w (fun _ => False) w' ∧ C.Gl w') := by
  have hO : ∀ b, Owned (shp (dropB η' bs)) (mwk η' (dropB η' bs) m) b → b < w.heap.size ∧ C.N ≤ b := by
    intro b hb
    rcases owned_wk hb with h1 | ⟨i, h1, h2⟩
    · exact h.mem.olt b h1
    · exact ⟨h.mem.lt (blk_live.1 h1) h2, h.mem.low i b (blk_live.1 h1) h2⟩
  refine hc.2 w _ (os.map a.eval) h.gl h.mem.big hO (by have := hb.len; simpa using this) (fun j y v hy hv => ?_)
  rw [Array.getElem?_map] at hv
  cases hj : os[j]? with
  | none => rw [hj] at hv; cases hv
  | some q =>
    rw [hj] at hv
    simp at hv
    subst hv
    have hx : (os.toList.map (evA τ'))[j]? = some (evA τ' q) := by simp [hj]
    have hbw := hb.at j _ y hx hy
    have hrv := hbw.wv (N := C.N) w m _ h.mem (h.ev q)
    exact rv_fr (hbw.free hrv) (fun b hb => owned_nov.1 hb) hrv
theorem call_run {o : Oper} {f : FuncId} {os : Array Operand} {ats : Array TypeId} {r : AV} {ys : List AV} {a : Act} {w : World} (ho : o.op = .call ⟨.value (.func f), os, ats⟩) (hc : ACall C f ys r) : (execOp a.eval o).run C.P w = .ok (.enter f (os.map a.eval)) w := by
  simp [execOp, ho, resolve, Act.eval, Deferred.ofValue, invoke, hc.1]
theorem after_call {τ : Nat → AV} {η : Nat → Ent} {w0 : World} {X : XX} {m : MM} {a : Act} {w w' : World} (h : Rep C n w0 X τ η m a w) (h2 : Kin w (fun _ => False) w') : Rep C n w0 X τ η m a w' := by
  have hm : Mono w (shp η) m w' (shp η) m := by
    refine ⟨h2.size, fun b hb _ => h2.block b hb (by simp), fun _ _ h => h, fun _ => Nat.le_refl _, fun i _ => ⟨rfl, fun hl => ⟨rfl, fun b hb => ?_⟩⟩⟩
    unfold World.shape?
    rw [h2.block b (h.mem.lt (blk_live.1 hl) hb) (by simp)]
  have hmem : Mem C.N w' η m := ⟨fun i B hB => (h.mem.ok i B hB).mono hm (fun b hb => h2.block b (h.mem.lt (by rw [hB]; simp) hb) (by simp)), h.mem.inj, h.mem.low, h.mem.sep, fun b hb => ⟨Nat.lt_of_lt_of_le (h.mem.olt b hb).1 h2.size, (h.mem.olt b hb).2⟩, Nat.le_trans h.mem.big h2.size⟩
  have hkin : Kin w0 X.X w' := ⟨h2.os.trans h.kin.os, h2.tape.trans h.kin.tape, h2.output.trans h.kin.output, Nat.le_trans h.kin.size h2.size, fun b hb hx => by rw [h2.block b (Nat.lt_of_lt_of_le hb h.kin.size) (by simp), h.kin.block b hb hx]⟩
  exact h.move hm hmem hkin rfl h.own (fun _ _ => rfl)
/-- a call that is lent own memory; no memory in its result -/
theorem lf_callB {o : Oper} {τ : Nat → AV} {η : Nat → Ent} {f : FuncId} {os : Array Operand} {ats : Array TypeId} {r : AV} {xs ys : List AV} (bs : List Nat) (ho : o.op = .call ⟨.value (.func f), os, ats⟩) (hd : InB n o.dst) (hargs : os.toList.map (evA τ) = xs)
    (hb : BWL η (dropB η bs) xs ys) (hc : ACall C f ys r) (hr : scal r) : LF C n o τ η ⟨r, [], bs⟩ := by
  subst hargs
  intro τ' η' hτ hη w0 X m a w h
  have hmap : os.toList.map (evA τ') = os.toList.map (evA τ) := List.map_congr_left (fun y hy => hτ y (by simp [ho, Op.operands, Call.operands]; exact .inr (by simpa using hy)))
  have hb' : BWL η' (dropB η' bs) (os.toList.map (evA τ')) ys := by rw [hmap]; exact bwl_congr (fun i hi => hη i (.inl hi)) hb
  unfold Oper.wp
  rw [call_run ho hc]
  refine Calls.mono (lend h hb' hc) ?_
  rintro e w' ⟨v, rfl, h1, h2, h3⟩
  exact ⟨m, (after_call h h2).put hd (rv_scal hr h1)⟩
theorem upd_gone : ∀ (us : List (Nat × Ent)) (η : Nat → Ent) (g : Nat → Ent) (k : Nat), (∀ p ∈ us, p.2 = g p.1) → updAll η us k = if k ∈ us.map (·.1) then g k else η k
  | [], η, g, k, _ => by simp [updAll]
  | (i, e) :: r, η, g, k, h => by
    rw [updAll, upd_gone r (updE η i e) g k (fun p hp => h p (by simp [hp]))]
    have he : e = g i := h (i, e) (by simp)
    by_cases hk : k ∈ r.map (·.1)
    · rw [if_pos hk, if_pos (by simp only [List.map_cons, List.mem_cons]; exact .inr hk)]
    · rw [if_neg hk]
      by_cases hki : k = i
      · subst hki; simp [updE, he]
      · rw [if_neg (by simp only [List.map_cons, List.mem_cons]; rintro (h | h); exact hki h; exact hk h)]
        simp [updE, hki]
/-- a call that is given own memory for good -/
theorem lf_callF {o : Oper} {τ : Nat → AV} {η : Nat → Ent} {f : FuncId} {os : Array Operand} {ats : Array TypeId} {r : AV} {xs ys : List AV} (us : List (Nat × Ent)) (hus : ∀ p ∈ us, p.2 = ⟨(η p.1).ver + 1, none⟩) (hul : ∀ p ∈ us, p.1 < n) (ho : o.op = .call ⟨.value (.func f), os, ats⟩) (hd : InB n o.dst) (hargs : os.toList.map (evA τ) = xs)
    (hb : BWL η (dropB η (us.map (·.1))) xs ys) (hc : ACall C f ys r) (hr : fr1 r) : LF C n o τ η ⟨r, us, []⟩ := by
  subst hargs
  intro τ' η' hτ hη w0 X m a w h
  obtain ⟨bs, hbs⟩ : ∃ bs, bs = us.map (·.1) := ⟨_, rfl⟩
  rw [← hbs] at hb
  have hη' : ∀ i ∈ bs, η' i = η i := fun i hi => hη i (.inr (by rw [hbs] at hi; exact hi))
  have hmap : os.toList.map (evA τ') = os.toList.map (evA τ) := List.map_congr_left (fun y hy => hτ y (by simp [ho, Op.operands, Call.operands]; exact .inr (by simpa using hy)))
  have hb' : BWL η' (dropB η' bs) (os.toList.map (evA τ')) ys := by rw [hmap]; exact bwl_congr hη' hb
  have hup : ∀ k, updAll η' us k = if k ∈ bs then ⟨(η' k).ver + 1, none⟩ else η' k := by
    intro k
    rw [upd_gone us η' (fun i => ⟨(η i).ver + 1, none⟩) k hus, hbs]
    by_cases hk : k ∈ us.map (·.1)
    · rw [if_pos hk, if_pos hk, hη' k (by rw [hbs]; exact hk)]
    · rw [if_neg hk, if_neg hk]
  have hlive : ∀ i, (updAll η' us i).blk ≠ none → i ∉ bs ∧ updAll η' us i = η' i := by
    intro i hi
    rw [hup] at hi ⊢
    by_cases hk : i ∈ bs
    · rw [if_pos hk] at hi; exact absurd rfl hi
    · exact ⟨hk, by rw [if_neg hk]⟩
  have hown : ∀ b, Owned (shp (updAll η' us)) m b → Owned (shp (dropB η' bs)) (mwk η' (dropB η' bs) m) b := by
    rintro b (h1 | ⟨i, h1, h2⟩)
    · exact .inl h1
    · obtain ⟨k1, k2⟩ := hlive i (blk_live.1 h1)
      have h3 : (η' i).blk ≠ none := by rw [← k2]; exact blk_live.1 h1
      refine .inr ⟨i, blk_live.2 (by rw [drop_out k1]; exact h3), ?_⟩
      cases hB : (η' i).blk with
      | none => exact absurd hB h3
      | some B => simp only [mwk, drop_out k1, hB]; exact h2
  unfold Oper.wp
  rw [call_run ho hc]
  refine Calls.mono (lend h hb' hc) ?_
  rintro e w' ⟨v, rfl, h1, h2, h3⟩
  have h4 := after_call h h2
  have hm : Mono w' (shp η') m w' (shp (updAll η' us)) m := by
    refine ⟨Nat.le_refl _, fun _ _ _ => rfl, fun b _ hno ho => hno ?_, fun i => ?_, fun i hi => ?_⟩
    · exact owned_wk (hown b ho)
    · show (η' i).ver ≤ (updAll η' us i).ver
      rw [hup]
      split
      · exact Nat.le_succ _
      · exact Nat.le_refl _
    · have : updAll η' us i = η' i := by
        rw [hup]
        split
        · rename_i hk
          have hi' : (updAll η' us i).ver = (η' i).ver := hi
          rw [hup, if_pos hk] at hi'
          simp at hi'
        · rfl
      exact ⟨by simp only [shp, this], fun _ => ⟨rfl, fun _ _ => rfl⟩⟩
  have hmem : Mem C.N w' (updAll η' us) m := by
    refine ⟨fun i B hB => ?_, fun i i' b q1 q2 q3 q4 => h4.mem.inj i i' b (by rw [← (hlive i q1).2]; exact q1) (by rw [← (hlive i' q2).2]; exact q2) q3 q4, fun i b q1 q2 => h4.mem.low i b (by rw [← (hlive i q1).2]; exact q1) q2, fun i b q1 q2 => h4.mem.sep i b (by rw [← (hlive i q1).2]; exact q1) q2, h4.mem.olt, h4.mem.big⟩
    have q := hlive i (by rw [hB]; simp)
    exact (h4.mem.ok i B (by rw [← q.2]; exact hB)).mono hm (fun _ _ => rfl)
  have h5 := h4.move hm hmem h4.kin rfl (fun i b q1 q2 => h4.own i b (by rw [← (hlive i q1).2]; exact q1) q2) (fun k hk => by
    have : k ∉ bs := fun hkb => by
      rw [hbs] at hkb
      obtain ⟨p, hp, rfl⟩ := List.mem_map.1 hkb
      have := hul p hp
      omega
    rw [hup, if_neg this])
  exact ⟨m, h5.put hd (rv_fr1 hr (fun b hb => owned_nov.2 (hown b hb)) h1)⟩
/-- what a closure computes -/
def CCl (C : Cx) (F : AV) (xs : List AV) (r : AV) : Prop := ∃ f fs cap, F = .clo (.func f) fs cap ∧ ACall C f (fs ++ xs ++ cap) r
/-- a call of a closure -/
theorem lf_clo {o : Oper} {τ : Nat → AV} {η : Nat → Ent} {c : Operand} {os : Array Operand} {ats : Array TypeId} {r F : AV} {xs : List AV} (ho : o.op = .call ⟨.value c, os, ats⟩) (hd : InB n o.dst) (hF : evA τ c = F) (hargs : os.toList.map (evA τ) = xs) (hc : CCl C F xs r) (hfF : Fr F) (hfr : frs xs) (hr : fr1 r) : LF C n o τ η ⟨r, [], []⟩ := by
  subst hargs
  obtain ⟨f, fs, cap, rfl, hen, hcall⟩ := hc
  intro τ' η' hτ _ w0 X m a w h
  have hmap : os.toList.map (evA τ') = os.toList.map (evA τ) := List.map_congr_left (fun y hy => hτ y (by simp [ho, Op.operands, Call.operands]; exact .inr (by simpa using hy)))
  have hcv : evA τ' c = .clo (.func f) fs cap := by rw [hτ c (by simp [ho, Op.operands, Call.operands]), hF]
  have hv := h.ev c
  rw [hcv] at hv
  have hvn : RV w nov (mO (Owned (shp η') m)) (.clo (.func f) fs cap) (a.eval c) := rv_fr hfF (fun b hb => owned_nov.1 hb) hv
  obtain ⟨us, us', hu, l1, r1, l2, r2⟩ := rv_clo hvn
  have hrun : (execOp a.eval o).run C.P w = .ok (.enter f (us ++ os.map a.eval ++ us')) w := by
    simp [execOp, ho, resolve, hu, Deferred.ofValue, invoke, hen]
  have hO : ∀ b, Owned (shp η') m b → b < w.heap.size ∧ C.N ≤ b := by
    rintro b (h1 | ⟨i, h1, h2⟩)
    · exact h.mem.olt b h1
    · exact ⟨h.mem.lt (blk_live.1 h1) h2, h.mem.low i b (blk_live.1 h1) h2⟩
  have hmid : ∀ (j : Nat) (x : AV) (v : Value), (os.toList.map (evA τ))[j]? = some x → (os.map a.eval)[j]? = some v → RV w nov (mO (Owned (shp η') m)) x v := by
    intro j x v hx hv
    refine rv_fr1 (frs_at hfr hx) (fun b hb => owned_nov.1 hb) ?_ (vs := shp η') (m := m)
    rw [← hmap, List.getElem?_map] at hx
    rw [Array.getElem?_map] at hv
    cases hj : os[j]? with
    | none => rw [hj] at hv; cases hv
    | some q =>
      have hj' : os.toList[j]? = some q := by simpa using hj
      rw [hj'] at hx
      rw [hj] at hv
      simp at hx hv
      rw [← hx, ← hv]
      exact h.ev q
  have := hcall w (Owned (shp η') m) (us ++ os.map a.eval ++ us') h.gl h.mem.big hO (by simp [l1, l2]) (fun j x v hx hv => by
    rw [List.getElem?_append] at hx
    rw [Array.getElem?_append] at hv
    have e1 : (fs ++ os.toList.map (evA τ)).length = (us ++ os.map a.eval).size := by simp [l1]
    rw [e1] at hx
    split at hx
    · rename_i hlt
      rw [if_pos hlt] at hv
      rw [List.getElem?_append] at hx
      rw [Array.getElem?_append] at hv
      rw [l1] at hx
      split at hx
      · rename_i hlt2
        rw [if_pos hlt2] at hv
        exact r1 j x v hx hv
      · rename_i hlt2
        rw [if_neg hlt2] at hv
        exact hmid _ x v hx hv
    · rename_i hlt
      rw [if_neg hlt] at hv
      exact r2 _ x v hx hv)
  unfold Oper.wp
  rw [hrun]
  refine Calls.mono this ?_
  rintro e w' ⟨v, rfl, h1, h2, h3⟩
  exact ⟨m, (after_call h h2).put hd (rv_fr1 hr (fun b hb => owned_nov.2 hb) h1)⟩
theorem lf_func {o : Oper} {τ : Nat → AV} {η : Nat → Ent} {fn : Fn} {first cap : Array Operand} {fs cs : List AV} (ho : o.op = .makeFunc fn first cap) (hd : InB n o.dst) (h1 : first.toList.map (evA τ) = fs) (h2 : cap.toList.map (evA τ) = cs) : LF C n o τ η ⟨.clo fn fs cs, [], []⟩ := by
  subst h1 h2
  refine lf_pure hd (fun τ' η' g1 _ => ?_)
  have e1 : first.toList.map (evA τ') = first.toList.map (evA τ) := List.map_congr_left (fun y hy => g1 y (by simp [ho, Op.operands]; exact .inl (by simpa using hy)))
  have e2 : cap.toList.map (evA τ') = cap.toList.map (evA τ) := List.map_congr_left (fun y hy => g1 y (by simp [ho, Op.operands]; exact .inr (by simpa using hy)))
  rw [← e1, ← e2]
  exact p_func ho
theorem row_part1 {η η' : Nat → Ent} {els els' : List (List AV)} (h : BWLL η η' els els') : RowK η η' els els' := .part h.1 h.2
theorem bwll_nil {η η' : Nat → Ent} : BWLL η η' [] [] := ⟨rfl, fun k e e' h => by simp at h⟩
theorem bwll_rep {η η' : Nat → Ent} {k : Nat} {z z' : List AV} (h : BWL η η' z z') : BWLL η η' (List.replicate k z) (List.replicate k z') := by
  refine ⟨by simp, fun q e e' h1 h2 => ?_⟩
  rw [List.getElem?_replicate] at h1 h2
  split at h1
  · rename_i hlt
    rw [if_pos hlt] at h2
    injection h1 with h1
    injection h2 with h2
    subst h1 h2
    exact ⟨h.len.symm, h.at⟩
  · cases h1
def ltUs (n : Nat) : List (Nat × Ent) → Prop
  | [] => True
  | p :: r => p.1 < n ∧ ltUs n r
theorem ltUs_at {n : Nat} : ∀ {us : List (Nat × Ent)}, ltUs n us → ∀ p ∈ us, p.1 < n
  | [], _, _, hp => by cases hp
  | q :: r, h, p, hp => by
    rcases List.mem_cons.1 hp with rfl | h2
    · exact h.1
    · exact ltUs_at h.2 p h2
def allUs (η : Nat → Ent) : List (Nat × Ent) → Prop
  | [] => True
  | p :: r => p.2 = ⟨(η p.1).ver + 1, none⟩ ∧ allUs η r
theorem allUs_at {η : Nat → Ent} : ∀ {us : List (Nat × Ent)}, allUs η us → ∀ p ∈ us, p.2 = ⟨(η p.1).ver + 1, none⟩
  | [], _, p, h => by cases h
  | q :: r, h, p, hp => by
    rcases List.mem_cons.1 hp with rfl | h2
    · exact h.1
    · exact allUs_at h.2 p h2
/-- from a weaker state on -/
theorem awp_wk {c : Code} {Q : Exit → St → Prop} {s : St} (s1 : St) (hl : leK s s1 True) (h : forceK s1.tm (fun tm => forceK s1.hp (fun hp => True → AWP C c Q ⟨tm, hp⟩))) : AWP C c Q s := awp_le hl (forceK_ok (forceK_ok h) trivial)
end
end Go.Proofs.YtflgpccacloadaaDoor.Am
/- An abstract machine (6): calls in general: own memory lent to be changed, own memory given away, new memory handed back. -/
namespace Go.Proofs.YtflgpccacloadaaDoor.Am
open Go.RowKit
/-- what one view of the memory says of another: the names of the target come of names of the source -/
structure View (w : World) (η : Nat → Ent) (m : MM) (η' : Nat → Ent) (m' : MM) (σ : Nat → Nat) (Fz Tg : Nat → Prop) : Prop where
  own : ∀ b, Owned (shp η') m' b → Owned (shp η) m b
  frz : ∀ i b, Fz i → (η i).blk ≠ none → m i = some b → ¬ Owned (shp η') m' b
  at_ : ∀ i, Tg i → (η' i).blk ≠ none → m' i = match (η (σ i)).blk with | some _ => m (σ i) | none => none
/-- a value of one view in another -/
inductive GW (η η' : Nat → Ent) (σ : Nat → Nat) (Fz Tg : Nat → Prop) : AV → AV → Prop
  | fr {x : AV} : Fr x → GW η η' σ Fz Tg x x
  | sl {sz : Nat} {l : List (List AV)} : GW η η' σ Fz Tg (.sl sz l) (.sl sz l)
  | nil {sz cc : Nat} : GW η η' σ Fz Tg (.c (.slice none 0 cc)) (.sl sz [])
  | thaw {i ver cc : Nat} {B' : Blk} : Tg i → η' i = ⟨ver, some B'⟩ → (η (σ i)).blk = none → cc = 0 → GW η η' σ Fz Tg (.c (.slice none 0 cc)) (.own i ver 0 0)
  | ren {i ver i' ver' k len : Nat} {B B' : Blk} : Tg i' → η i = ⟨ver, some B⟩ → η' i' = ⟨ver', some B'⟩ → σ i' = i → B.sz = B'.sz → GW η η' σ Fz Tg (.own i ver k len) (.own i' ver' k len)
  | pren {i ver i' ver' k j : Nat} {B B' : Blk} : Tg i' → η i = ⟨ver, some B⟩ → η' i' = ⟨ver', some B'⟩ → σ i' = i → B.sz = B'.sz → GW η η' σ Fz Tg (.ptr i ver k j) (.ptr i' ver' k j)
  | oren {i ver i' ver' k j : Nat} {B B' : Blk} : Tg i' → η i = ⟨ver, some B⟩ → η' i' = ⟨ver', some B'⟩ → σ i' = i → B.sz = B'.sz → GW η η' σ Fz Tg (.ptrO i ver k j) (.ptrO i' ver' k j)
  | opren {i ver i' ver' k j : Nat} {B B' : Blk} : Tg i' → η i = ⟨ver, some B⟩ → η' i' = ⟨ver', some B'⟩ → σ i' = i → B.sz = B'.sz → GW η η' σ Fz Tg (.ptr i ver k j) (.ptrO i' ver' k j)
  | mren {i ver i' ver' : Nat} {B B' : Blk} : Tg i' → η i = ⟨ver, some B⟩ → η' i' = ⟨ver', some B'⟩ → σ i' = i → GW η η' σ Fz Tg (.mp i ver) (.mp i' ver')
  | onil {i' ver' k j : Nat} {B' : Blk} : Tg i' → η' i' = ⟨ver', some B'⟩ → GW η η' σ Fz Tg (.c (.pointer none)) (.ptrO i' ver' k j)
  | own {i ver k len sz : Nat} {B : Blk} {els' l : List (List AV)} : η i = ⟨ver, some B⟩ → Fz i → B.sz = sz → els'.length = B.els.length →
      (∀ (k : Nat) (e e' : List AV), B.els[k]? = some e → els'[k]? = some e' → e'.length = e.length) → (∀ (k : Nat) (e e' : List AV), B.els[k]? = some e → els'[k]? = some e' → ∀ (j : Nat) (x x' : AV), e[j]? = some x → e'[j]? = some x' → GW η η' σ Fz Tg x x') →
      k + len ≤ els'.length → FrL els' → len ≤ 140737488355328 → l = (els'.drop k).take len → GW η η' σ Fz Tg (.own i ver k len) (.sl sz l)
  | ptr {i ver k j : Nat} {B : Blk} {e e' : List AV} : isM B.box B.ty = false → η i = ⟨ver, some B⟩ → Fz i → B.els[k]? = some e → e'.length = e.length → (∀ (j : Nat) (x x' : AV), e[j]? = some x → e'[j]? = some x' → GW η η' σ Fz Tg x x') → GW η η' σ Fz Tg (.ptr i ver k j) (.pim e' j)
  | agg {cs cs' : List AV} : cs.length = cs'.length → (∀ (j : Nat) (x x' : AV), cs[j]? = some x → cs'[j]? = some x' → GW η η' σ Fz Tg x x') → GW η η' σ Fz Tg (.agg cs) (.agg cs')
  | tup {cs cs' : List AV} : cs.length = cs'.length → (∀ (j : Nat) (x x' : AV), cs[j]? = some x → cs'[j]? = some x' → GW η η' σ Fz Tg x x') → GW η η' σ Fz Tg (.tup cs) (.tup cs')
  | ifc {t : TypeId} {x x' : AV} : GW η η' σ Fz Tg x x' → GW η η' σ Fz Tg (.ifc t x) (.ifc t x')
  | clo {f : Fn} {cs cs' ds ds' : List AV} : cs.length = cs'.length → (∀ (j : Nat) (x x' : AV), cs[j]? = some x → cs'[j]? = some x' → GW η η' σ Fz Tg x x') → ds.length = ds'.length → (∀ (j : Nat) (x x' : AV), ds[j]? = some x → ds'[j]? = some x' → GW η η' σ Fz Tg x x') → GW η η' σ Fz Tg (.clo f cs ds) (.clo f cs' ds')
section
variable {N : Nat} {w : World} {η η' : Nat → Ent} {m m' : MM} {σ : Nat → Nat} {Fz Tg : Nat → Prop}
theorem View.some_ (hV : View w η m η' m' σ Fz Tg) {i i' ver ver' : Nat} {B B' : Blk} (ht : Tg i') (h1 : η i = ⟨ver, some B⟩) (h2 : η' i' = ⟨ver', some B'⟩) (h3 : σ i' = i) : m' i' = m i := by
  have := hV.at_ i' ht (by rw [h2]; simp)
  rw [h3, h1] at this
  exact this
theorem rv_ifc {w : World} {vs : Shp} {m : MM} {t : TypeId} {x : AV} {v : Value} (h : RV w vs m (.ifc t x) v) : ∃ u, v = .iface t u ∧ RV w vs m x u := by
  cases h with
  | ifc h => exact ⟨_, rfl, h⟩
theorem GW.rv (hV : View w η m η' m' σ Fz Tg) (hm : Mem N w η m) {x x' : AV} (h : GW η η' σ Fz Tg x x') : ∀ {v : Value}, RV w (shp η) m x v → RV w (shp η') m' x' v := by
  have nil : ∀ sz A, RV w (shp η') m' (.sl sz ([] : List (List AV))) (.slice A 0 0) := fun sz A =>
    RV.sl (l := []) (b := 0) (off := 0) (f := fun _ _ => undef) (fun h => absurd rfl h) (Nat.le_refl _) (by simp) (fun k e h => by simp at h) (fun k j e x h => by simp at h) (fun k j e x h => by simp at h) (fun e he => by cases he)
  induction h with
  | fr h => exact fun hv => rv_fr h hV.own hv
  | sl =>
    intro v hv
    have := hv
    obtain ⟨_, _, _, _, _, _, _, _, _, _, _, _, hfr⟩ := rv_sl this
    exact rv_fr (.sl hfr) hV.own hv
  | nil =>
    intro v hv
    rw [rv_c hv]
    exact RV.sl (l := []) (b := 0) (off := 0) (f := fun _ _ => undef) (fun h => absurd rfl h) (Nat.zero_le _) (by simp) (fun k e h => by simp at h) (fun k j e x h => by simp at h) (fun k j e x h => by simp at h) (fun e he => by cases he)
  | @thaw i ver cc B' ht h1 h2 hc =>
    intro v hv
    subst hc
    rw [rv_c hv]
    have := hV.at_ i ht (by rw [h1]; simp)
    rw [h2] at this
    exact .ownN (sz := B'.sz) (by simp [shp, h1]) this
  | @ren i ver i' ver' k len B B' ht h1 h2 h3 hs =>
    intro v hv
    have hs' : (shp η') i' = (ver', some B.sz) := by simp [shp, h2, hs]
    have hk := hV.some_ ht h1 h2 h3
    rcases rv_own hv h1 with ⟨rfl, rfl, e, rfl⟩ | ⟨k', A, rfl, rfl, rfl⟩ | ⟨b, cap, ty, nn, e1, e2, e3, e4, e5, rfl⟩
    · exact .ownN hs' (by rw [hk, e])
    · exact .ownZ hs'
    · exact .own hs' (by rw [hk, e1]) e2 e3 e4 e5
  | @pren i ver i' ver' k j B B' ht h1 h2 h3 hs =>
    intro v hv
    obtain ⟨b, e1, rfl⟩ := rv_ptr hv h1
    exact .ptr (by simp [shp, h2, hs]) (by rw [hV.some_ ht h1 h2 h3, e1])
  | @oren i ver i' ver' k j B B' ht h1 h2 h3 hs =>
    intro v hv
    rcases rv_ptrO hv h1 with rfl | ⟨b, e1, rfl⟩
    · exact .ptrON (sz := B'.sz) (by simp [shp, h2])
    · exact .ptrO (by simp [shp, h2, hs]) (by rw [hV.some_ ht h1 h2 h3, e1])
  | @opren i ver i' ver' k j B B' ht h1 h2 h3 hs =>
    intro v hv
    obtain ⟨b, e1, rfl⟩ := rv_ptr hv h1
    exact .ptrO (by simp [shp, h2, hs]) (by rw [hV.some_ ht h1 h2 h3, e1])
  | @mren i ver i' ver' B B' ht h1 h2 h3 =>
    intro v hv
    obtain ⟨b, e1, rfl⟩ := rv_mp hv h1
    exact .mp (sz := B'.sz) (by simp [shp, h2]) (by rw [hV.some_ ht h1 h2 h3, e1])
  | @onil i' ver' k j B' ht h2 =>
    intro v hv
    rw [rv_c hv]
    exact .ptrON (sz := B'.sz) (by simp [shp, h2])
  | @own i ver k len sz B els' l h1 hz hs hl hl2 _ hkl hfr hmax he ih =>
    intro v hv
    subst hs he
    have hll : ((els'.drop k).take len).length = len := by simp; omega
    have hfr' : FrL ((els'.drop k).take len) := fun e he => hfr e (List.mem_of_mem_drop (List.mem_of_mem_take he))
    rcases rv_own hv h1 with ⟨rfl, rfl, e, rfl⟩ | ⟨k', A, rfl, rfl, rfl⟩ | ⟨b, cap, ty, nn, e1, e2, e3, e4, e5, rfl⟩
    · simpa using nil B.sz none
    · simpa using nil B.sz A
    · have hok := hm.ok i B (by rw [h1])
      rw [e1] at hok
      obtain ⟨arr, a1, a2, a3⟩ := hok.unmap e4
      have hget : ∀ q e, ((els'.drop k).take len)[q]? = some e → els'[k + q]? = some e := fun q e he => by
        rw [List.getElem?_take] at he
        split at he
        · rw [List.getElem?_drop] at he; exact he
        · cases he
      have hold : ∀ (q : Nat) (e' : List AV), els'[q]? = some e' → ∃ e : List AV, B.els[q]? = some e ∧ e'.length = e.length ∧ ∀ (j : Nat) (x x' : AV) (v : Value), e[j]? = some x → e'[j]? = some x' → RV w (shp η) m x v → RV w (shp η') m' x' v := fun q e' he' => by
        have hlt : q < B.els.length := by rw [← hl]; exact (List.getElem?_eq_some_iff.1 he').1
        exact ⟨_, List.getElem?_eq_getElem hlt, hl2 q _ e' (List.getElem?_eq_getElem hlt) he', fun j x x' v hx hx' hv => ih q _ e' (List.getElem?_eq_getElem hlt) he' j x x' hx hx' hv⟩
      have hcell : ∀ (q j : Nat) (e' : List AV) (x' : AV), ((els'.drop k).take len)[q]? = some e' → e'[j]? = some x' → ∃ u, arr.getD ((k + q) * B.sz + j) undef = u ∧ arr[(k + q) * B.sz + j]? = some u ∧ u.oneCell' = true ∧ RV w (shp η') m' x' u := fun q j e' x' he hj => by
        obtain ⟨e, q1, q2, q3⟩ := hold _ e' (hget q e' he)
        have hlt : j < e.length := by rw [← q2]; exact (List.getElem?_eq_some_iff.1 hj).1
        obtain ⟨u, u1, u2, u3⟩ := (a3 _ e q1).2 j _ (List.getElem?_eq_getElem hlt)
        exact ⟨u, by simp [Array.getD_eq_getD_getElem?, u1], u1, u2, q3 j _ x' u (List.getElem?_eq_getElem hlt) hj u3⟩
      have := RV.sl (w := w) (vs := shp η') (m := m') (sz := B.sz) (l := (els'.drop k).take len) (A := some ⟨b, k * B.sz, none⟩) (cap := cap) (b := b) (off := k * B.sz) (f := fun q j => arr.getD ((k + q) * B.sz + j) undef)
        (fun _ => ⟨rfl, hV.frz i b hz (by rw [h1]; simp) e1, lt_of_block a1⟩) (by omega) (by omega) (fun q e' he => ?_) (fun q j e x he hj => ?_) (fun q j e x he hj => ?_) hfr'
      · rw [hll] at this
        exact this
      · obtain ⟨e, q1, q2, _⟩ := hold _ e' (hget q e' he)
        rw [q2]
        exact (a3 _ e q1).1
      · obtain ⟨u, q1, q2, q3, _⟩ := hcell q j e x he hj
        refine ⟨?_, by rw [q1]; exact q3⟩
        rw [q1, show k * B.sz + (q * B.sz + j) = (k + q) * B.sz + j from by rw [Nat.add_mul]; omega]
        simp [World.cell?, a1, q2]
      · obtain ⟨u, q1, _, _, q4⟩ := hcell q j e x he hj
        rw [q1]
        exact q4
  | @ptr i ver k j B e e' hM h1 hz he hl _ ih =>
    intro v hv
    obtain ⟨b, e1, rfl⟩ := rv_ptr hv h1
    have hok := hm.ok i B (by rw [h1])
    rw [e1] at hok
    obtain ⟨arr, a1, a2, a3⟩ := hok.cellsF hM
    have hcell : ∀ (q : Nat) (x' : AV), e'[q]? = some x' → ∃ u, arr.getD (k * B.sz + q) undef = u ∧ arr[k * B.sz + q]? = some u ∧ RV w (shp η') m' x' u := fun q x' hq => by
      have hlt : q < e.length := by rw [← hl]; exact (List.getElem?_eq_some_iff.1 hq).1
      obtain ⟨u, u1, _, u3⟩ := (a3 _ e he).2 q _ (List.getElem?_eq_getElem hlt)
      exact ⟨u, by simp [Array.getD_eq_getD_getElem?, u1], u1, ih q _ x' (List.getElem?_eq_getElem hlt) hq u3⟩
    refine .pim (b := b) (off := k * B.sz) (f := fun q => arr.getD (k * B.sz + q) undef) (hV.frz i b hz (by rw [h1]; simp) e1) (lt_of_block a1) (fun q x hq => ?_) (fun q x hq => ?_)
    · obtain ⟨u, q1, q2, _⟩ := hcell q x hq
      rw [q1]
      simp [World.cell?, a1, q2]
    · obtain ⟨u, q1, _, q3⟩ := hcell q x hq
      rw [q1]
      exact q3
  | agg hl _ ih =>
    intro v hv
    obtain ⟨us, rfl, hlen, hr⟩ := rv_agg hv
    refine .agg (by omega) (fun j x' u h1 h2 => ?_)
    have hlt := (List.getElem?_eq_some_iff.1 h1).1
    rw [← hl] at hlt
    exact ih j _ x' (List.getElem?_eq_getElem hlt) h1 (hr j _ u (List.getElem?_eq_getElem hlt) h2)
  | tup hl _ ih =>
    intro v hv
    obtain ⟨us, rfl, hlen, hr⟩ := rv_tup hv
    refine .tup (by omega) (fun j x' u h1 h2 => ?_)
    have hlt := (List.getElem?_eq_some_iff.1 h1).1
    rw [← hl] at hlt
    exact ih j _ x' (List.getElem?_eq_getElem hlt) h1 (hr j _ u (List.getElem?_eq_getElem hlt) h2)
  | clo hl _ hl2 _ ih ih2 =>
    intro v hv
    obtain ⟨us, us', rfl, l1, r1, l2, r2⟩ := rv_clo hv
    refine .clo (by omega) (fun j x' u h3 h4 => ?_) (by omega) (fun j x' u h3 h4 => ?_)
    · have hlt := (List.getElem?_eq_some_iff.1 h3).1
      rw [← hl] at hlt
      exact ih j _ x' (List.getElem?_eq_getElem hlt) h3 (r1 j _ u (List.getElem?_eq_getElem hlt) h4)
    · have hlt := (List.getElem?_eq_some_iff.1 h3).1
      rw [← hl2] at hlt
      exact ih2 j _ x' (List.getElem?_eq_getElem hlt) h3 (r2 j _ u (List.getElem?_eq_getElem hlt) h4)
  | ifc _ ih =>
    intro v hv
    obtain ⟨u, rfl, hu⟩ := rv_ifc hv
    exact .ifc (ih hu)
theorem GW.congr {η1 η2 : Nat → Ent} (h1 : ∀ i, Fz i → η1 i = η i) (h2 : ∀ i, Tg i → η2 i = η' i ∧ η1 (σ i) = η (σ i)) {x y : AV} (h : GW η η' σ Fz Tg x y) : GW η1 η2 σ Fz Tg x y := by
  induction h with
  | fr h => exact .fr h
  | sl => exact .sl
  | nil => exact .nil
  | thaw ht a b c => exact .thaw ht (by rw [(h2 _ ht).1, a]) (by rw [(h2 _ ht).2, b]) c
  | ren ht a b c d => exact .ren ht (by rw [← c, (h2 _ ht).2, c, a]) (by rw [(h2 _ ht).1, b]) c d
  | pren ht a b c d => exact .pren ht (by rw [← c, (h2 _ ht).2, c, a]) (by rw [(h2 _ ht).1, b]) c d
  | oren ht a b c d => exact .oren ht (by rw [← c, (h2 _ ht).2, c, a]) (by rw [(h2 _ ht).1, b]) c d
  | opren ht a b c d => exact .opren ht (by rw [← c, (h2 _ ht).2, c, a]) (by rw [(h2 _ ht).1, b]) c d
  | onil ht b => exact .onil ht (by rw [(h2 _ ht).1, b])
  | own a hz hs hl hl2 _ hkl hfr hmax he ih => exact .own (by rw [h1 _ hz, a]) hz hs hl hl2 ih hkl hfr hmax he
  | mren ht a b c => exact .mren ht (by rw [← c, (h2 _ ht).2, c, a]) (by rw [(h2 _ ht).1, b]) c
  | ptr hM a hz he hl _ ih => exact .ptr hM (by rw [h1 _ hz, a]) hz he hl ih
  | agg hl _ ih => exact .agg hl ih
  | tup hl _ ih => exact .tup hl ih
  | clo hl _ hl2 _ ih ih2 => exact .clo hl ih hl2 ih2
  | ifc _ ih => exact .ifc ih
end
/-- lists of such values, rows of such elements -/
inductive GWL (η η' : Nat → Ent) (σ : Nat → Nat) (Fz Tg : Nat → Prop) : List AV → List AV → Prop
  | nil : GWL η η' σ Fz Tg [] []
  | cons {x y : AV} {r s : List AV} : GW η η' σ Fz Tg x y → GWL η η' σ Fz Tg r s → GWL η η' σ Fz Tg (x :: r) (y :: s)
structure GWLL (η η' : Nat → Ent) (σ : Nat → Nat) (Fz Tg : Nat → Prop) (els els' : List (List AV)) : Prop where
  len : els'.length = els.length
  at_ : ∀ (k : Nat) (e e' : List AV), els[k]? = some e → els'[k]? = some e' → e'.length = e.length ∧ ∀ (j : Nat) (x x' : AV), e[j]? = some x → e'[j]? = some x' → GW η η' σ Fz Tg x x'
/-- a block of one view in another -/
def GB (η η' : Nat → Ent) (σ : Nat → Nat) (Fz Tg : Nat → Prop) (o : Option Blk) (B' : Blk) : Prop :=
  match o with
  | some B => (B'.ty = B.ty ∧ B'.sz = B.sz ∧ B'.box = B.box) ∧ (B'.els.length = B.els.length ∨ (B.box = false ∧ B'.els.length ≤ B.els.length)) ∧ ∀ (k : Nat) (e e' : List AV), B.els[k]? = some e → B'.els[k]? = some e' → e'.length = e.length ∧ ∀ (j : Nat) (x x' : AV), e[j]? = some x → e'[j]? = some x' → GW η η' σ Fz Tg x x'
  | none => B'.els = [] ∧ B'.box = false
section
variable {N : Nat} {w : World} {η η' : Nat → Ent} {m m' : MM} {σ : Nat → Nat} {Fz Tg : Nat → Prop}
theorem GWL.len {xs ys : List AV} (h : GWL η η' σ Fz Tg xs ys) : xs.length = ys.length := by
  induction h with
  | nil => rfl
  | cons _ _ ih => simp [ih]
theorem GWL.at {xs ys : List AV} (h : GWL η η' σ Fz Tg xs ys) : ∀ (j : Nat) (x y : AV), xs[j]? = some x → ys[j]? = some y → GW η η' σ Fz Tg x y := by
  induction h with
  | nil => intro j x y hx; simp at hx
  | cons h1 _ ih =>
    intro j x y hx hy
    cases j with
    | zero => simp at hx hy; subst hx hy; exact h1
    | succ j => exact ih j x y (by simpa using hx) (by simpa using hy)
theorem GWL.congr {η1 η2 : Nat → Ent} (h1 : ∀ i, Fz i → η1 i = η i) (h2 : ∀ i, Tg i → η2 i = η' i ∧ η1 (σ i) = η (σ i)) {xs ys : List AV} (h : GWL η η' σ Fz Tg xs ys) : GWL η1 η2 σ Fz Tg xs ys := by
  induction h with
  | nil => exact .nil
  | cons h3 _ ih => exact .cons (h3.congr h1 h2) ih
theorem GB.congr {η1 η2 : Nat → Ent} (h1 : ∀ i, Fz i → η1 i = η i) (h2 : ∀ i, Tg i → η2 i = η' i ∧ η1 (σ i) = η (σ i)) {o : Option Blk} {B' : Blk} (h : GB η η' σ Fz Tg o B') : GB η1 η2 σ Fz Tg o B' := by
  cases o with
  | none => exact h
  | some B => exact ⟨h.1, h.2.1, fun k e e' q1 q2 => ⟨(h.2.2 k e e' q1 q2).1, fun j x x' q3 q4 => ((h.2.2 k e e' q1 q2).2 j x x' q3 q4).congr h1 h2⟩⟩
theorem gwll_fr {els : List (List AV)} (h : FrL els) : GWLL η η' σ Fz Tg els els := by
  refine ⟨rfl, fun k e e' h1 h2 => ?_⟩
  rw [h1] at h2
  injection h2 with h2
  subst h2
  refine ⟨rfl, fun j x x' h3 h4 => ?_⟩
  rw [h3] at h4
  injection h4 with h4
  subst h4
  exact .fr (h e (List.mem_of_getElem? h1) x (List.mem_of_getElem? h3))
theorem gwll_same {els els' : List (List AV)} (h : els = els') (hf : FrL els) : GWLL η η' σ Fz Tg els els' := by subst h; exact gwll_fr hf
theorem gwll_nil : GWLL η η' σ Fz Tg [] [] := ⟨rfl, fun k e e' h => by simp at h⟩
theorem gwll_cons {e e' : List AV} {r r' : List (List AV)} (h1 : GWL η η' σ Fz Tg e e') (h2 : GWLL η η' σ Fz Tg r r') : GWLL η η' σ Fz Tg (e :: r) (e' :: r') := by
  refine ⟨by simp [h2.1], fun k q q' hq hq' => ?_⟩
  cases k with
  | zero => simp at hq hq'; subst hq hq'; exact ⟨h1.len.symm, h1.at⟩
  | succ k => exact h2.2 k q q' (by simpa using hq) (by simpa using hq')
theorem gwll_set {a a' : List (List AV)} {e e' : List AV} {k k' : Nat} (hk : k = k') (h1 : GWLL η η' σ Fz Tg a a') (h2 : GWL η η' σ Fz Tg e e') : GWLL η η' σ Fz Tg (a.set k e) (a'.set k' e') := by
  subst hk
  refine ⟨by simp [h1.1], fun i q q' hq hq' => ?_⟩
  by_cases hi : i = k
  · subst hi
    have hlt : i < a.length := by have := (List.getElem?_eq_some_iff.1 hq).1; simpa using this
    rw [List.getElem?_set_self hlt] at hq
    rw [List.getElem?_set_self (by rw [h1.1]; exact hlt)] at hq'
    simp at hq hq'
    subst hq hq'
    exact ⟨h2.len.symm, h2.at⟩
  · rw [List.getElem?_set_ne (fun e => hi e.symm)] at hq hq'
    exact h1.2 i q q' hq hq'
theorem gwll_rep {e e' : List AV} {n : Nat} (h : GWL η η' σ Fz Tg e e') : GWLL η η' σ Fz Tg (List.replicate n e) (List.replicate n e') := by
  refine ⟨by simp, fun i q q' hq hq' => ?_⟩
  rw [List.getElem?_replicate] at hq hq'
  split at hq
  · rename_i hlt
    rw [if_pos hlt] at hq'
    simp at hq hq'
    subst hq hq'
    exact ⟨h.len.symm, h.at⟩
  · cases hq
theorem gwll_append {a a' b b' : List (List AV)} (h1 : GWLL η η' σ Fz Tg a a') (h2 : GWLL η η' σ Fz Tg b b') : GWLL η η' σ Fz Tg (a ++ b) (a' ++ b') := by
  refine ⟨by simp [h1.1, h2.1], fun k q q' hq hq' => ?_⟩
  rw [List.getElem?_append] at hq hq'
  rw [h1.1] at hq'
  split at hq
  · rename_i hlt
    rw [if_pos hlt] at hq'
    exact h1.2 k q q' hq hq'
  · rename_i hlt
    rw [if_neg hlt] at hq'
    exact h2.2 _ q q' hq hq'
theorem gw_agg {cs cs' : List AV} (h : GWL η η' σ Fz Tg cs cs') : GW η η' σ Fz Tg (.agg cs) (.agg cs') := .agg h.len h.at
theorem gw_ifc {t : TypeId} {x x' : AV} (h : GW η η' σ Fz Tg x x') : GW η η' σ Fz Tg (.ifc t x) (.ifc t x') := .ifc h
theorem gw_tup {cs cs' : List AV} (h : GWL η η' σ Fz Tg cs cs') : GW η η' σ Fz Tg (.tup cs) (.tup cs') := .tup h.len h.at
theorem gw_clo {f : Fn} {ds ds' : List AV} (h : GWL η η' σ Fz Tg ds ds') : GW η η' σ Fz Tg (.clo f [] ds) (.clo f [] ds') := .clo rfl (fun j x x' hx => by simp at hx) h.len h.at
theorem gw_c {v : Value} : GW η η' σ Fz Tg (.c v) (.c v) := .fr (.c v)
theorem gw_own {i ver k len sz : Nat} {B : Blk} {els' l : List (List AV)} (h1 : η i = ⟨ver, some B⟩) (h2 : Fz i) (hs : B.sz = sz) (hw : GWLL η η' σ Fz Tg B.els els') (hkl : k + len ≤ els'.length) (hfr : FrL els') (hmax : len ≤ 140737488355328) (hl : l = (els'.drop k).take len) : GW η η' σ Fz Tg (.own i ver k len) (.sl sz l) :=
  .own h1 h2 hs hw.1 (fun k e e' q1 q2 => (hw.2 k e e' q1 q2).1) (fun k e e' q1 q2 => (hw.2 k e e' q1 q2).2) hkl hfr hmax hl
theorem gw_own3 {i ver len sz : Nat} {B : Blk} {l : List (List AV)} (h1 : η i = ⟨ver, some B⟩) (h2 : Fz i) (hs : B.sz = sz) (hfr : FrL l) (hw : GWLL η η' σ Fz Tg B.els l) (hlen : len = l.length) (hmax : len ≤ 140737488355328) : GW η η' σ Fz Tg (.own i ver 0 len) (.sl sz l) :=
  gw_own h1 h2 hs hw (by omega) hfr hmax (by rw [List.drop_zero, hlen, List.take_length])
theorem gw_ptr {i ver k j : Nat} {B : Blk} {e e' : List AV} (h1 : η i = ⟨ver, some B⟩) (h2 : Fz i) (he : B.els[k]? = some e) (hw : GWL η η' σ Fz Tg e e') (hM : isM B.box B.ty = false := by rfl) : GW η η' σ Fz Tg (.ptr i ver k j) (.pim e' j) := .ptr hM h1 h2 he hw.len.symm hw.at
theorem gw_ren {i ver i' ver' k len len' : Nat} {B B' : Blk} (ht : Tg i') (h1 : η i = ⟨ver, some B⟩) (h2 : η' i' = ⟨ver', some B'⟩) (h3 : σ i' = i) (h4 : B.sz = B'.sz) (hl : len = len') : GW η η' σ Fz Tg (.own i ver k len) (.own i' ver' k len') := by subst hl; exact .ren ht h1 h2 h3 h4
theorem gw_pren {i ver i' ver' k j : Nat} {B B' : Blk} (ht : Tg i') (h1 : η i = ⟨ver, some B⟩) (h2 : η' i' = ⟨ver', some B'⟩) (h3 : σ i' = i) (h4 : B.sz = B'.sz) : GW η η' σ Fz Tg (.ptr i ver k j) (.ptr i' ver' k j) := .pren ht h1 h2 h3 h4
theorem gw_oren {i ver i' ver' k j : Nat} {B B' : Blk} (ht : Tg i') (h1 : η i = ⟨ver, some B⟩) (h2 : η' i' = ⟨ver', some B'⟩) (h3 : σ i' = i) (h4 : B.sz = B'.sz) : GW η η' σ Fz Tg (.ptrO i ver k j) (.ptrO i' ver' k j) := .oren ht h1 h2 h3 h4
theorem gw_opren {i ver i' ver' k j : Nat} {B B' : Blk} (ht : Tg i') (h1 : η i = ⟨ver, some B⟩) (h2 : η' i' = ⟨ver', some B'⟩) (h3 : σ i' = i) (h4 : B.sz = B'.sz) : GW η η' σ Fz Tg (.ptr i ver k j) (.ptrO i' ver' k j) := .opren ht h1 h2 h3 h4
theorem gw_mren {i ver i' ver' : Nat} {B B' : Blk} (ht : Tg i') (h1 : η i = ⟨ver, some B⟩) (h2 : η' i' = ⟨ver', some B'⟩) (h3 : σ i' = i) : GW η η' σ Fz Tg (.mp i ver) (.mp i' ver') := .mren ht h1 h2 h3
theorem gw_onil {i' ver' k j : Nat} {B' : Blk} (ht : Tg i') (h2 : η' i' = ⟨ver', some B'⟩) : GW η η' σ Fz Tg (.c (.pointer none)) (.ptrO i' ver' k j) := .onil ht h2
theorem gw_thaw {i ver cc : Nat} {B' : Blk} (ht : Tg i) (h1 : η' i = ⟨ver, some B'⟩) (h2 : (η (σ i)).blk = none) (hc : cc = 0 := by rfl) : GW η η' σ Fz Tg (.c (.slice none 0 cc)) (.own i ver 0 0) := .thaw ht h1 h2 hc
theorem gb_nil {B' : Blk} (h1 : B'.els = []) (h2 : B'.box = false) : GB η η' σ Fz Tg none B' := ⟨h1, h2⟩
theorem gb_some {B B' : Blk} (h1 : B'.ty = B.ty ∧ B'.sz = B.sz ∧ B'.box = B.box) (h2 : GWLL η η' σ Fz Tg B.els B'.els) : GB η η' σ Fz Tg (some B) B' := ⟨h1, .inl h2.1, h2.2⟩
/-- of a row's block a front part may be kept -/
theorem gb_take {B B' : Blk} {m : Nat} (hb : B.box = false) (h1 : B'.ty = B.ty ∧ B'.sz = B.sz ∧ B'.box = B.box) (h : B'.els = B.els.take m) (hf : FrL B'.els) : GB η η' σ Fz Tg (some B) B' := by
  refine ⟨h1, .inr ⟨hb, by rw [h, List.length_take]; omega⟩, fun k e e' he he' => ?_⟩
  have hm := List.mem_of_getElem? he'
  rw [h, List.getElem?_take] at he'
  split at he'
  · rw [he] at he'
    injection he' with he'
    subst he'
    refine ⟨rfl, fun j x x' hx hx' => ?_⟩
    rw [hx] at hx'
    injection hx' with hx'
    subst hx'
    exact .fr (hf _ hm _ (List.mem_of_getElem? hx))
  · cases he'
theorem GB.ok (hV : View w η m η' m' σ Fz Tg) (hm : Mem N w η m) {i : Nat} {B' : Blk} (ht : Tg i) (hi : (η' i).blk = some B') (h : GB η η' σ Fz Tg (η (σ i)).blk B') : BlkOk w (shp η') m' B' (m' i) := by
  have hat := hV.at_ i ht (by rw [hi]; simp)
  cases hB : (η (σ i)).blk with
  | none =>
    rw [hB] at h hat
    rw [hat]
    exact h
  | some B =>
    rw [hB] at h hat
    rw [hat]
    obtain ⟨⟨e1, e2, e3⟩, e4, e5⟩ := h
    have hok := hm.ok (σ i) B hB
    cases hmi : m (σ i) with
    | none =>
      rw [hmi] at hok
      have : B.els = [] := hok.1
      refine ⟨List.length_eq_zero_iff.1 ?_, by rw [e3]; exact hok.2⟩
      rw [this, List.length_nil] at e4
      omega
    | some b =>
      rw [hmi] at hok
      obtain ⟨arr, a1, a2, a3⟩ := hok
      have hle : B'.els.length ≤ B.els.length := by omega
      have a1' : Cont w b B' arr := by
        rcases e4 with e4 | ⟨hb, _⟩
        · exact a1.congr e3 e1 e4 e2
        · have hM : isM B.box B.ty = false := by rw [hb]; rfl
          exact Cont.cells (by rw [e1]; exact a1.1 hM) (by rw [e3, e1]; exact hM)
      refine ⟨arr, a1', by rw [e2]; exact Nat.le_trans (Nat.mul_le_mul_right _ hle) a2, fun k e' he' => ?_⟩
      have hlt : k < B.els.length := Nat.lt_of_lt_of_le (List.getElem?_eq_some_iff.1 he').1 hle
      have hge := List.getElem?_eq_getElem hlt
      obtain ⟨l1, l2⟩ := e5 k _ e' hge he'
      obtain ⟨q1, q2⟩ := a3 k _ hge
      refine ⟨by rw [l1, q1, e2], fun j x' hx' => ?_⟩
      have hj : j < (B.els[k]).length := by rw [← l1]; exact (List.getElem?_eq_some_iff.1 hx').1
      have hgj := List.getElem?_eq_getElem hj
      obtain ⟨u, u1, u2, u3⟩ := q2 j _ hgj
      exact ⟨u, by rw [e2]; exact u1, by rw [e3, e1]; exact u2, (l2 j _ x' hgj hx').rv hV hm u3⟩
end
/-- blocks by their names -/
def fE : List (Nat × Blk) → Nat → Ent
  | [], _ => ⟨0, none⟩
  | (j, B) :: r, i => match Nat.beq i j with
    | true => ⟨0, some B⟩
    | false => fE r i
def lk : List (Nat × Nat) → Nat → Nat
  | [], i => i
  | (a, b) :: r, i => match Nat.beq i a with
    | true => b
    | false => lk r i
def inB : List Nat → Nat → Bool
  | [], _ => false
  | j :: r, i => match Nat.beq i j with
    | true => true
    | false => inB r i
def nodB : List Nat → Bool
  | [] => true
  | j :: r => match inB r j with
    | true => false
    | false => nodB r
def keys (bs : List (Nat × Blk)) : List Nat := bs.map (·.1)
theorem beq_iff {i j : Nat} : Nat.beq i j = true ↔ i = j := ⟨Nat.eq_of_beq_eq_true, fun h => by rw [h]; exact Nat.beq_refl j⟩
theorem inB_iff : ∀ {l : List Nat} {i : Nat}, inB l i = true ↔ i ∈ l
  | [], i => by simp [inB]
  | j :: r, i => by
    unfold inB
    cases h : Nat.beq i j with
    | true => simp [beq_iff.1 h]
    | false =>
      have : i ≠ j := fun e => by rw [beq_iff.2 e] at h; cases h
      simp [this, inB_iff (l := r)]
theorem nodB_iff : ∀ {l : List Nat}, nodB l = true ↔ l.Nodup
  | [] => by simp [nodB]
  | j :: r => by
    unfold nodB
    cases h : inB r j with
    | true => simp [inB_iff.1 h]
    | false =>
      have : j ∉ r := fun e => by rw [inB_iff.2 e] at h; cases h
      simp [this, nodB_iff (l := r)]
theorem fE_live : ∀ {bs : List (Nat × Blk)} {i : Nat}, (fE bs i).blk ≠ none ↔ i ∈ keys bs
  | [], i => by simp [fE, keys]
  | (j, B) :: r, i => by
    unfold fE
    cases h : Nat.beq i j with
    | true => simp [keys, beq_iff.1 h]
    | false =>
      have : i ≠ j := fun e => by rw [beq_iff.2 e] at h; cases h
      have ih := fE_live (bs := r) (i := i)
      simp only [keys] at ih ⊢
      simp [this, ih]
theorem fE_mem : ∀ {bs : List (Nat × Blk)} {i : Nat} {B : Blk}, (fE bs i).blk = some B → (i, B) ∈ bs
  | [], i, B, h => by simp [fE] at h
  | (j, B') :: r, i, B, h => by
    unfold fE at h
    cases hb : Nat.beq i j with
    | true =>
      rw [hb] at h
      injection h with h
      rw [beq_iff.1 hb, h]
      simp
    | false =>
      rw [hb] at h
      exact List.mem_cons_of_mem _ (fE_mem h)
theorem fE_at {bs : List (Nat × Blk)} (hn : (keys bs).Nodup) {i : Nat} {B : Blk} (h : (i, B) ∈ bs) : fE bs i = ⟨0, some B⟩ := by
  induction bs with
  | nil => cases h
  | cons p r ih =>
    obtain ⟨j, B'⟩ := p
    simp only [keys, List.map_cons, List.nodup_cons] at hn
    unfold fE
    cases hb : Nat.beq i j with
    | true =>
      have hij := beq_iff.1 hb
      rcases List.mem_cons.1 h with h | h
      · injection h with _ h; rw [h]
      · exact absurd (List.mem_map.2 ⟨_, h, hij⟩) hn.1
    | false =>
      rcases List.mem_cons.1 h with h | h
      · injection h with h _
        rw [beq_iff.2 h] at hb
        cases hb
      · exact ih hn.2 h
theorem fE_ver : ∀ {bs : List (Nat × Blk)} {i : Nat}, (fE bs i).ver = 0
  | [], _ => rfl
  | (j, B) :: r, i => by
    unfold fE
    cases Nat.beq i j
    · exact fE_ver
    · rfl

/-- what a call has made of the memory -/
structure GR (C : Cx) (w : World) (m : MM) (bs : List (Nat × Blk)) (ks : List Nat) (r : AV) (bs' : List (Nat × Blk)) (v : Value) (m' : MM) (w' : World) : Prop where
  rv : RV w' (shp (fE bs')) m' r v
  mem : Mem C.N w' (fE bs') m'
  oo : m'.O = m.O
  kin : Kin w (fun b => ∃ i, (fE bs i).blk ≠ none ∧ m i = some b) w'
  own : ∀ i b, (fE bs' i).blk ≠ none → m' i = some b → (∃ k, (fE bs k).blk ≠ none ∧ m k = some b) ∨ w.heap.size ≤ b
  ks : ∀ i ∈ ks, m' i = m i ∧ ∀ b, m i = some b → w'.shape? b = w.shape? b
  gl : C.Gl w'
/-- the function, called with these values, the blocks bs lent, returns this value and the blocks bs'; the names ks keep their blocks -/
def ACallG (C : Cx) (f : FuncId) (args : List AV) (bs : List (Nat × Blk)) (ks : List Nat) (r : AV) (bs' : List (Nat × Blk)) : Prop :=
  (∀ (vs : Array Value) (w : World), (callFunc f vs).run C.P w = .ok (.enter f vs) w) ∧
  ∀ (w : World) (m : MM) (cargs : Array Value), C.Gl w → Mem C.N w (fE bs) m → cargs.size = args.length → (∀ (j : Nat) (x : AV) (v : Value), args[j]? = some x → cargs[j]? = some v → RV w (shp (fE bs)) m x v) →
    Calls C.P f cargs w (fun e w' => ∃ v m', e = .returned v ∧ GR C w m bs ks r bs' v m' w')

/-- what is left to show where a function returns -/
def GBL (η η' : Nat → Ent) (σ : Nat → Nat) (Fz Tg : Nat → Prop) : List (Nat × Blk) → Prop
  | [] => True
  | (i, B) :: r => GB η η' σ Fz Tg (η (σ i)).blk B ∧ GBL η η' σ Fz Tg r
theorem GBL_at {η η' : Nat → Ent} {σ : Nat → Nat} {Fz Tg : Nat → Prop} : ∀ {l : List (Nat × Blk)} {i : Nat} {B : Blk}, GBL η η' σ Fz Tg l → (i, B) ∈ l → GB η η' σ Fz Tg (η (σ i)).blk B
  | [], _, _, _, h => by cases h
  | (j, B') :: r, i, B, h, hm => by
    rcases List.mem_cons.1 hm with e | e
    · injection e with e1 e2; subst e1 e2; exact h.1
    · exact GBL_at h.2 e
def ksB (σl : List (Nat × Nat)) (bs : List (Nat × Blk)) : List Nat → Bool
  | [] => true
  | i :: r => match Nat.beq (lk σl i) i, inB (keys bs) i with
    | true, true => ksB σl bs r
    | _, _ => false
theorem ksB_at {σl : List (Nat × Nat)} {bs : List (Nat × Blk)} : ∀ {l : List Nat}, ksB σl bs l = true → ∀ i ∈ l, lk σl i = i ∧ i ∈ keys bs
  | [], _, i, h => by cases h
  | j :: r, h, i, hi => by
    unfold ksB at h
    split at h
    · rename_i h1 h2
      rcases List.mem_cons.1 hi with rfl | hi
      · exact ⟨beq_iff.1 h1, inB_iff.1 h2⟩
      · exact ksB_at h i hi
    · cases h
abbrev srcs (σl : List (Nat × Nat)) (bs : List (Nat × Blk)) : List Nat := bs.map (fun p => lk σl p.1)
def okX (σl : List (Nat × Nat)) (bs' : List (Nat × Blk)) (ks : List Nat) : Bool := match nodB (srcs σl bs'), nodB (keys bs'), ksB σl bs' ks with
  | true, true, true => true
  | _, _, _ => false
theorem okX_ok {σl : List (Nat × Nat)} {bs' : List (Nat × Blk)} {ks : List Nat} (h : okX σl bs' ks = true) : (srcs σl bs').Nodup ∧ (keys bs').Nodup ∧ ksB σl bs' ks = true := by
  unfold okX at h
  split at h
  · rename_i h1 h2 h3
    exact ⟨nodB_iff.1 h1, nodB_iff.1 h2, h3⟩
  · cases h
def GX (hp : List Ent) (bs' : List (Nat × Blk)) (ks : List Nat) (xs rs : List AV) : Prop :=
  ∃ σl : List (Nat × Nat), okX σl bs' ks = true ∧ GWL (hpF hp) (fE bs') (lk σl) (fun i => inB (srcs σl bs') i = false) (fun i => inB (keys bs') i = true) xs rs ∧
    GBL (hpF hp) (fE bs') (lk σl) (fun i => inB (srcs σl bs') i = false) (fun i => inB (keys bs') i = true) bs'
def retG (C : Cx) (bs' : List (Nat × Blk)) (ks : List Nat) (rs : List ResultVar) (r : AV) : Exit → St → Prop
  | .normal, s => resK C s.tm s.hp rs (fun xs => oneK xs r (fun xs rs => True → GX s.hp bs' ks xs rs))
  | .ret, s => resK C s.tm s.hp rs (fun xs => oneK xs r (fun xs rs => True → GX s.hp bs' ks xs rs))
  | _, _ => False
/-- a frame of a function that is lent memory -/
def mkG (n N : Nat) (t : List (Nat × AV)) (h : List (Nat × Blk)) : St := ⟨mkT 0 n t, mkH 0 N h⟩
theorem nodup_inj {α : Type} (f : α → Nat) {l : List α} (h : (l.map f).Nodup) {x y : α} (hx : x ∈ l) (hy : y ∈ l) (e : f x = f y) : x = y := by
  induction l with
  | nil => cases hx
  | cons a r ih =>
    simp only [List.map_cons, List.nodup_cons] at h
    rcases List.mem_cons.1 hx with hx1 | hx1 <;> rcases List.mem_cons.1 hy with hy1 | hy1
    · rw [hx1, hy1]
    · subst hx1; exact absurd (List.mem_map.2 ⟨y, hy1, e.symm⟩) h.1
    · subst hy1; exact absurd (List.mem_map.2 ⟨x, hx1, e⟩) h.1
    · exact ih h.2 hx1 hy1
def rangeE (bs : List (Nat × Blk)) : Nat → Nat → List Ent
  | _, 0 => []
  | i, k + 1 => fE bs i :: rangeE bs (i + 1) k
theorem rangeE_at {bs : List (Nat × Blk)} : ∀ (k i j : Nat), hpF (rangeE bs i k) j = if j < k then fE bs (i + j) else ⟨0, none⟩
  | 0, i, j => by simp [rangeE]
  | k + 1, i, j => by
    cases j with
    | zero => simp [rangeE]
    | succ j =>
      have := rangeE_at (bs := bs) k (i + 1) j
      rw [show i + 1 + j = i + (j + 1) from by omega] at this
      simpa [rangeE] using this
def ltB (N : Nat) : List Nat → Bool
  | [] => true
  | j :: r => match Nat.blt j N with
    | true => ltB N r
    | false => false
theorem ltB_at {N : Nat} : ∀ {l : List Nat}, ltB N l = true → ∀ i ∈ l, i < N
  | [], _, i, h => by cases h
  | j :: r, h, i, hi => by
    unfold ltB at h
    split at h
    · rename_i h1
      rcases List.mem_cons.1 hi with rfl | hi
      · simpa [Nat.blt_eq] using h1
      · exact ltB_at h i hi
    · cases h
def geB (N : Nat) (bs : List (Nat × Blk)) : List Nat → Bool
  | [] => true
  | j :: r => match Nat.ble N j, inB (keys bs) j with
    | true, true => geB N bs r
    | _, _ => false
theorem geB_at {N : Nat} {bs : List (Nat × Blk)} : ∀ {l : List Nat}, geB N bs l = true → ∀ i ∈ l, N ≤ i ∧ i ∈ keys bs
  | [], _, i, h => by cases h
  | j :: r, h, i, hi => by
    unfold geB at h
    split at h
    · rename_i h1 h2
      rcases List.mem_cons.1 hi with rfl | hi
      · exact ⟨Nat.le_of_ble_eq_true h1, inB_iff.1 h2⟩
      · exact geB_at h i hi
    · cases h
section
variable {C : Cx} {n : Nat}
theorem acallg_of {f : FuncId} {fn : Func} {c : Code} {args : List AV} {bs bs' : List (Nat × Blk)} {ks : List Nat} {r : AV} (N : Nat) (hf : C.P.funcs[f]? = some fn) (hb : fn.body = some c) (hname : (fn.name == "runtime.NumGoroutine") = false) (hn : fn.ntmps = n) (_ha : args.length ≤ n)
    (hlt : ltB N (keys bs) = true) (hks : geB n bs ks = true)
    (h : forceK (args ++ List.replicate (n - args.length) .dead) (fun tm => forceK (rangeE bs 0 N) (fun hp => True → AWP C c (retG C bs' ks fn.results.toList r) ⟨tm, hp⟩))) (hP : ∀ (w : World) (X : XX), C.Pw w X := by exact fun _ _ => trivial) : ACallG C f args bs ks r bs' := by
  have h := forceK_ok (forceK_ok h) trivial
  refine ⟨fun vs w => ?_, fun w m cargs hg hM hsz hargs => ?_⟩
  · simp only [callFunc, Sem.run_bind, program, Sem.run, Result.andThen_ok, hf, hname, hb]
    rfl
  have hη : hpF (rangeE bs 0 N) = fE bs := by
    funext i
    rw [rangeE_at]
    split
    · rw [Nat.zero_add]
    · rename_i hge
      have h1 : (fE bs i).blk = none := by
        by_cases he : (fE bs i).blk = none
        · exact he
        · exact absurd (ltB_at hlt i (fE_live.1 he)) hge
      have h2 := fE_ver (bs := bs) (i := i)
      generalize fE bs i = e at h1 h2
      obtain ⟨a, b⟩ := e
      simp only at h1 h2
      subst h1 h2
      rfl
  have hrep : RepS C w ⟨fun b => ∃ i, (fE bs i).blk ≠ none ∧ m i = some b, m.O, fun i => i ∈ ks, m.f⟩ ⟨args ++ List.replicate (n - args.length) .dead, rangeE bs 0 N⟩ m { tmps := cargs ++ Array.replicate (fn.ntmps - cargs.size) undef, defers := [] } w := by
    unfold RepS
    simp only [hη]
    refine ⟨fun t => ?_, by simp [hn, hsz], rfl, hM, ⟨rfl, rfl, rfl, Nat.le_refl _, fun _ _ _ => rfl⟩, rfl, fun i b hl hb => .inl ⟨i, hl, hb⟩, hg, fun i hi => ?_, hP _ _⟩
    · show RV w _ m ((args ++ List.replicate (n - args.length) AV.dead).getD t .dead) _
      rcases Nat.lt_or_ge t args.length with hlt | hge
      · rw [List.getD_eq_getElem?_getD, List.getElem?_append_left hlt, List.getElem?_eq_getElem hlt]
        have hc : t < cargs.size := by omega
        refine hargs t _ _ (List.getElem?_eq_getElem hlt) ?_
        rw [Array.getD_eq_getD_getElem?, Array.getElem?_append_left hc, Array.getElem?_eq_getElem hc]
        rfl
      · have : (args ++ List.replicate (n - args.length) AV.dead).getD t .dead = .dead := by
          rw [List.getD_eq_getElem?_getD, List.getElem?_append_right hge, List.getElem?_replicate]
          split <;> rfl
        rw [this]
        exact .dead _
    · obtain ⟨k1, k2⟩ := geB_at hks i hi
      exact ⟨by simp; omega, fE_live.2 k2, rfl, fun _ _ => rfl⟩
  unfold AWP at h
  refine calls_of_wp hf hb (wp_mono (h w _ m _ w hrep) ?_)
  rintro e a' w' ⟨s', m', hl, hq, hr'⟩
  have fin : resK C s'.tm s'.hp fn.results.toList (fun xs => oneK xs r (fun xs rs => True → GX s'.hp bs' ks xs rs)) → a'.defers = [] ∧ ∃ v, (results fn a'.tmps).run C.P w' = .ok v w' ∧ ∃ u m1, Ending.returned v = .returned u ∧ GR C w m bs ks r bs' u m1 w' := by
    intro hk
    obtain ⟨xs, us, h1, h2, h3, h4⟩ := resK_ok hr' hk
    refine ⟨hr'.df, ?_⟩
    have hrun : (results fn a'.tmps).run C.P w' = .ok (if h : us.toArray.size = 1 then us.toArray[0] else .tuple us.toArray) w' := by
      unfold results
      rw [Array.mapM_eq_mapM_toList, map_eq_pure_bind]
      simp only [Sem.run_bind]
      erw [h2]
      simp
    have hfin : ∀ (ys : List AV), GX s'.hp bs' ks xs ys → ∃ m1 : MM, xs.length = ys.length ∧ (∀ (j : Nat) (y : AV) (u : Value), ys[j]? = some y → us[j]? = some u → RV w' (shp (fE bs')) m1 y u) ∧
        (∀ v, RV w' (shp (fE bs')) m1 r v → GR C w m bs ks r bs' v m1 w') := by
      rintro ys ⟨σl, hok, hwl, hbl⟩
      obtain ⟨k1, k2, k3⟩ := okX_ok hok
      let m1 : MM := ⟨fun i => match (fE bs' i).blk with
        | some _ => (match (hpF s'.hp (lk σl i)).blk with | some _ => m' (lk σl i) | none => none)
        | none => none, m'.O⟩
      have hm1 : ∀ i, (fE bs' i).blk ≠ none → m1 i = match (hpF s'.hp (lk σl i)).blk with | some _ => m' (lk σl i) | none => none := by
        intro i hi
        show (match (fE bs' i).blk with | some _ => _ | none => none) = _
        cases hB : (fE bs' i).blk with
        | none => exact absurd hB hi
        | some B => rfl
      have hm1s : ∀ i b, (fE bs' i).blk ≠ none → m1 i = some b → (hpF s'.hp (lk σl i)).blk ≠ none ∧ m' (lk σl i) = some b := by
        intro i b hi hb
        rw [hm1 i hi] at hb
        cases hB : (hpF s'.hp (lk σl i)).blk with
        | none => rw [hB] at hb; cases hb
        | some B => rw [hB] at hb; exact ⟨by simp, hb⟩
      have hsrc : ∀ i, (fE bs' i).blk ≠ none → lk σl i ∈ srcs σl bs' := by
        intro i hi
        obtain ⟨p, hp, rfl⟩ := List.mem_map.1 (fE_live.1 hi)
        exact List.mem_map.2 ⟨p, hp, rfl⟩
      have hinj : ∀ i j, (fE bs' i).blk ≠ none → (fE bs' j).blk ≠ none → lk σl i = lk σl j → i = j := by
        intro i j hi hj e
        obtain ⟨p, hp, rfl⟩ := List.mem_map.1 (fE_live.1 hi)
        obtain ⟨q, hq, rfl⟩ := List.mem_map.1 (fE_live.1 hj)
        rw [nodup_inj (fun p : Nat × Blk => lk σl p.1) k1 hp hq e]
      have hV : View w' (hpF s'.hp) m' (fE bs') m1 (lk σl) (fun i => inB (srcs σl bs') i = false) (fun i => inB (keys bs') i = true) := by
        refine ⟨?_, ?_, fun i ht hi => hm1 i hi⟩
        · rintro b (ho | ⟨i, hi, hb⟩)
          · exact .inl ho
          · obtain ⟨q1, q2⟩ := hm1s i b (blk_live.1 hi) hb
            exact .inr ⟨_, blk_live.2 q1, q2⟩
        · rintro i b hz hi hb (ho | ⟨j, hj, hbj⟩)
          · exact hr'.mem.sep i b hi hb ho
          · obtain ⟨q1, q2⟩ := hm1s j b (blk_live.1 hj) hbj
            have := hr'.mem.inj _ _ b hi q1 hb q2
            subst this
            have := inB_iff.2 (hsrc j (blk_live.1 hj))
            rw [hz] at this
            cases this
      have hmem : Mem C.N w' (fE bs') m1 := by
        refine ⟨fun i B hB => ?_, fun i j b hi hj hb hb' => ?_, fun i b hi hb => ?_, fun i b hi hb => ?_, hr'.mem.olt, hr'.mem.big⟩
        · exact (GBL_at hbl (fE_mem hB)).ok hV hr'.mem (inB_iff.2 (fE_live.1 (by rw [hB]; simp))) hB
        · obtain ⟨q1, q2⟩ := hm1s i b hi hb
          obtain ⟨q3, q4⟩ := hm1s j b hj hb'
          exact hinj i j hi hj (hr'.mem.inj _ _ b q1 q3 q2 q4)
        · obtain ⟨q1, q2⟩ := hm1s i b hi hb
          exact hr'.mem.low _ b q1 q2
        · obtain ⟨q1, q2⟩ := hm1s i b hi hb
          exact hr'.mem.sep _ b q1 q2
      refine ⟨m1, hwl.len, fun j y u hy hu => ?_, fun v hv => ⟨hv, hmem, hr'.oo, hr'.kin, fun i b hi hb => ?_, fun i hi => ?_, hr'.gl⟩⟩
      · have hlt : j < xs.length := by rw [hwl.len]; exact (List.getElem?_eq_some_iff.1 hy).1
        exact (hwl.at j _ y (List.getElem?_eq_getElem hlt) hy).rv hV hr'.mem (h4 j _ u (List.getElem?_eq_getElem hlt) hu)
      · obtain ⟨q1, q2⟩ := hm1s i b hi hb
        exact hr'.own _ b q1 q2
      · obtain ⟨q1, q2⟩ := ksB_at k3 i hi
        obtain ⟨p1, p2, p3, p4⟩ := hr'.kk i hi
        have e1 : m1 i = m' i := by
          rw [hm1 i (fE_live.2 q2), q1]
          cases hB : (hpF s'.hp i).blk with
          | none => exact absurd hB p2
          | some B => rfl
        have p3' : m' i = m i := p3
        exact ⟨by rw [e1, p3'], fun b hb => p4 b (by rw [p3', hb])⟩
    refine ⟨_, hrun, ?_⟩
    rcases oneK_ok h1 with ⟨x, rfl, h1⟩ | ⟨rs, rfl, hne, h1⟩
    · obtain ⟨m1, g1, g2, g3⟩ := hfin [r] (h1 trivial)
      refine ⟨_, m1, rfl, g3 _ ?_⟩
      have hus : us.length = 1 := by simpa using h3.symm
      obtain ⟨u, rfl⟩ := List.length_eq_one_iff.1 hus
      simpa using g2 0 r u rfl rfl
    · obtain ⟨m1, g1, g2, g3⟩ := hfin rs (h1 trivial)
      refine ⟨_, m1, rfl, g3 _ ?_⟩
      have hus : us.length ≠ 1 := fun e => by
        obtain ⟨x, rfl⟩ := List.length_eq_one_iff.1 (show xs.length = 1 by omega)
        exact hne x rfl
      rw [dif_neg (by simpa using hus)]
      refine .tup (by simp; omega) (fun j x u hx hu => g2 j x u hx (by simpa using hu))
  cases e with
  | normal => exact fin hq
  | ret => exact fin hq
  | _ => exact hq.elim
end
/-- the names of a call agree -/
def okC (ρ : List (Nat × Nat)) (fz : List Nat) (bs : List (Nat × Blk)) (ks : List Nat) (bs' : List (Nat × Blk)) (go : List Nat) : Bool :=
  nodB (srcs ρ bs) && (nodB (srcs ρ bs') && (nodB (keys bs) && (nodB (keys bs') && (fz.all (fun i => !inB (srcs ρ bs) i) && (fz.all (inB go) && ((keys bs).all (fun i => inB go (lk ρ i) || inB ks i) && ks.all (fun i => !inB go (lk ρ i) && (inB (keys bs) i && inB (keys bs') i))))))))
def idsE (l : List (Nat × Ent)) : List Nat := l.map (·.1)
/-- what the blocks of the call's end become -/
def nbOk (n : Nat) (η η1 : Nat → Ent) (ρ : List (Nat × Nat)) (ks : List Nat) (η' : Nat → Ent) (σ : Nat → Nat) (Tg : Nat → Prop) : List (Nat × Blk) → List (Nat × Ent) → Prop
  | [], [] => True
  | (j, B) :: r, (k, ⟨ver, some B'⟩) :: s => (lk ρ j = k ∧ (match inB ks j with
    | true => ver = (η k).ver ∧ some B'.sz = (η k).blk.map Blk.sz
    | false => k < n ∧ (η k).ver + 1 < ver) ∧ GB η' η1 σ (fun _ => False) Tg (some B) B') ∧ nbOk n η η1 ρ ks η' σ Tg r s
  | _, _ => False
theorem nbOk_ids {n : Nat} {η η1 η' : Nat → Ent} {ρ : List (Nat × Nat)} {ks : List Nat} {σ : Nat → Nat} {Tg : Nat → Prop} : ∀ {bs' : List (Nat × Blk)} {nb : List (Nat × Ent)}, nbOk n η η1 ρ ks η' σ Tg bs' nb → idsE nb = srcs ρ bs'
  | [], [], _ => rfl
  | (j, B) :: r, (k, ⟨ver, some B'⟩) :: s, h => by
    simp only [idsE, srcs, List.map_cons, List.cons.injEq]
    exact ⟨h.1.1.symm, nbOk_ids h.2⟩
  | [], _ :: _, h => h.elim
  | (j, B) :: r, [], h => h.elim
  | (j, B) :: r, (k, ⟨ver, none⟩) :: s, h => h.elim
theorem nbOk_at {n : Nat} {η η1 η' : Nat → Ent} {ρ : List (Nat × Nat)} {ks : List Nat} {σ : Nat → Nat} {Tg : Nat → Prop} : ∀ {bs' : List (Nat × Blk)} {nb : List (Nat × Ent)}, nbOk n η η1 ρ ks η' σ Tg bs' nb → ∀ k e, (k, e) ∈ nb →
    ∃ j B B', (j, B) ∈ bs' ∧ e.blk = some B' ∧ lk ρ j = k ∧ (inB ks j = true → e.ver = (η k).ver ∧ some B'.sz = (η k).blk.map Blk.sz) ∧ (inB ks j = false → k < n ∧ (η k).ver + 1 < e.ver) ∧ GB η' η1 σ (fun _ => False) Tg (some B) B'
  | [], [], _, k, e, hm => by cases hm
  | (j, B) :: r, (k', ⟨ver, some B'⟩) :: s, h, k, e, hm => by
    rcases List.mem_cons.1 hm with q | q
    · injection q with q1 q2
      subst q1 q2
      obtain ⟨⟨a1, a2, a3⟩, _⟩ := h
      refine ⟨j, B, B', by simp, rfl, a1, fun hk => ?_, fun hk => ?_, a3⟩
      · rw [hk] at a2; exact a2
      · rw [hk] at a2; exact a2
    · obtain ⟨j', C, C', b1, b2⟩ := nbOk_at h.2 k e q
      exact ⟨j', C, C', List.mem_cons_of_mem _ b1, b2⟩
  | [], _ :: _, h, _, _, _ => h.elim
  | (j, B) :: r, [], h, _, _, _ => h.elim
  | (j, B) :: r, (k, ⟨ver, none⟩) :: s, h, _, _, _ => h.elim
theorem updAll_append : ∀ (us vs : List (Nat × Ent)) (η : Nat → Ent), updAll η (us ++ vs) = updAll (updAll η us) vs
  | [], _, _ => rfl
  | (i, e) :: r, vs, η => by rw [List.cons_append, updAll, updAll, updAll_append r]
theorem updAll_at : ∀ {us : List (Nat × Ent)} {η : Nat → Ent} {k : Nat} {e : Ent}, (idsE us).Nodup → (k, e) ∈ us → updAll η us k = e
  | [], _, _, _, _, h => by cases h
  | (i, e') :: r, η, k, e, hn, h => by
    simp only [idsE, List.map_cons, List.nodup_cons] at hn
    rw [updAll]
    rcases List.mem_cons.1 h with h | h
    · injection h with h1 h2
      subst h1 h2
      rw [updAll_other hn.1]
      simp [updE]
    · exact updAll_at hn.2 h
def backN (ρ : List (Nat × Nat)) (bs' : List (Nat × Blk)) : List (Nat × Nat) := bs'.map (fun p => (lk ρ p.1, p.1))
theorem backN_at {ρ : List (Nat × Nat)} : ∀ {bs' : List (Nat × Blk)} {j : Nat} {B : Blk}, (srcs ρ bs').Nodup → (j, B) ∈ bs' → lk (backN ρ bs') (lk ρ j) = j
  | [], _, _, _, h => by cases h
  | (i, C) :: r, j, B, hn, h => by
    simp only [srcs, List.map_cons, List.nodup_cons] at hn
    show lk ((lk ρ i, i) :: backN ρ r) (lk ρ j) = j
    unfold lk
    rcases List.mem_cons.1 h with h | h
    · injection h with h1 _
      subst h1
      rw [beq_iff.2 rfl]
    · cases hb : Nat.beq (lk ρ j) (lk ρ i) with
      | true => exact absurd (List.mem_map.2 ⟨_, h, beq_iff.1 hb⟩) hn.1
      | false => exact backN_at hn.2 h
section
variable {C : Cx} {n : Nat}
theorem lf_callV {o : Oper} {τ : Nat → AV} {η : Nat → Ent} {f : FuncId} {r r' : AV} {xs ys : List AV} {bs bs' : List (Nat × Blk)} {ks : List Nat} (ρ : List (Nat × Nat)) (fz : List Nat) (go nb : List (Nat × Ent)) (rb : List Nat)
    (hrun0 : ∀ (w0 : World) (X : XX) (m : MM) (a : Act) (w : World) (τ' : Nat → AV) (η' : Nat → Ent), (∀ y ∈ o.op.operands, evA τ' y = evA τ y) → (∀ i ∈ rb, η' i = η i) → Rep C n w0 X τ' η' m a w → ∃ vs : Array Value, (execOp a.eval o).run C.P w = .ok (.enter f vs) w ∧ vs.size = xs.length ∧ ∀ (j : Nat) (x : AV) (v : Value), xs[j]? = some x → vs[j]? = some v → RV w (shp η') m x v) (hd : InB n o.dst) (hc : ACallG C f ys bs ks r bs')
    (hok : okC ρ fz bs ks bs' (idsE go) = true) (hgo : allUs η go) (hgl : ltUs n go)
    (hw : GWL η (fE bs) (lk ρ) (fun i => inB fz i = true) (fun i => inB (keys bs) i = true) xs ys) (hb : GBL η (fE bs) (lk ρ) (fun i => inB fz i = true) (fun i => inB (keys bs) i = true) bs)
    (hr : GW (fE bs') (updAll η (go ++ nb)) (lk (backN ρ bs')) (fun _ => False) (fun i => inB (idsE nb) i = true) r r')
    (hnb : nbOk n η (updAll η (go ++ nb)) ρ ks (fE bs') (lk (backN ρ bs')) (fun i => inB (idsE nb) i = true) bs' nb) : LF C n o τ η ⟨r', go ++ nb, rb⟩ := by
  intro τ' η' hτ hη w0 X m a w h
  simp only [okC, Bool.and_eq_true, List.all_eq_true, Bool.or_eq_true, Bool.not_eq_true'] at hok
  obtain ⟨o1, o2, o3, o4, o5, o6, o7, o8⟩ := hok
  rw [nodB_iff] at o1 o2 o3 o4
  have hidsn := nbOk_ids hnb
  have hidN : (idsE nb).Nodup := by rw [hidsn]; exact o2
  have hgoAt : ∀ k, k ∈ idsE go → η' k = η k := fun k hk => hη k (.inr (by simp only [Foot.ids, List.map_append, List.mem_append]; exact .inl hk))
  have hnbAt : ∀ k, k ∈ idsE nb → η' k = η k := fun k hk => hη k (.inr (by simp only [Foot.ids, List.map_append, List.mem_append]; exact .inr hk))
  have hkeep : ∀ i ∈ ks, lk ρ i ∉ idsE go ∧ i ∈ keys bs ∧ i ∈ keys bs' := fun i hi => by
    obtain ⟨q1, q2, q3⟩ := o8 i hi
    refine ⟨fun hm => ?_, inB_iff.1 q2, inB_iff.1 q3⟩
    rw [inB_iff.2 hm] at q1
    cases q1
  have hbs : ∀ i ∈ keys bs, lk ρ i ∈ idsE go ∨ i ∈ ks := fun i hi => by
    rcases o7 i hi with q | q
    · exact .inl (inB_iff.1 q)
    · exact .inr (inB_iff.1 q)
  have hfz : ∀ i ∈ fz, i ∈ idsE go ∧ i ∉ srcs ρ bs := fun i hi => by
    refine ⟨inB_iff.1 (o6 i hi), fun hm => ?_⟩
    have := o5 i hi
    rw [inB_iff.2 hm] at this
    cases this
  have hlkmem : ∀ {l : List (Nat × Blk)} {i : Nat}, i ∈ keys l → lk ρ i ∈ srcs ρ l := fun {l i} hi => by
    obtain ⟨p, hp, rfl⟩ := List.mem_map.1 hi
    exact List.mem_map.2 ⟨p, hp, rfl⟩
  have hrhoAt : ∀ i ∈ keys bs, η' (lk ρ i) = η (lk ρ i) := fun i hi => by
    rcases hbs i hi with q | q
    · exact hgoAt _ q
    · exact hnbAt _ (by rw [hidsn]; exact hlkmem (hkeep i q).2.2)
  have hw' : GWL η' (fE bs) (lk ρ) (fun i => inB fz i = true) (fun i => inB (keys bs) i = true) xs ys := by
    exact hw.congr (fun i hi => hgoAt i (hfz i (inB_iff.1 hi)).1) (fun i hi => ⟨rfl, hrhoAt i (inB_iff.1 hi)⟩)
  have hb1 : ∀ i B, (i, B) ∈ bs → GB η' (fE bs) (lk ρ) (fun i => inB fz i = true) (fun i => inB (keys bs) i = true) (η' (lk ρ i)).blk B := fun i B hm => by
    rw [hrhoAt i (List.mem_map.2 ⟨_, hm, rfl⟩)]
    exact (GBL_at hb hm).congr (fun i hi => hgoAt i (hfz i (inB_iff.1 hi)).1) (fun i hi => ⟨rfl, hrhoAt i (inB_iff.1 hi)⟩)
  -- the callee's view
  let O0 : Nat → Prop := Owned (shp (dropB η' (fz ++ srcs ρ bs))) m
  let m0 : MM := ⟨fun i => match (fE bs i).blk with
    | some _ => (match (η' (lk ρ i)).blk with | some _ => m (lk ρ i) | none => none)
    | none => none, O0⟩
  have hO0 : ∀ b, O0 b → Owned (shp η') m b := by
    rintro b (q | ⟨i, q1, q2⟩)
    · exact .inl q
    · refine .inr ⟨i, ?_, q2⟩
      have := blk_live.1 q1
      by_cases hi : i ∈ fz ++ srcs ρ bs
      · exact absurd (drop_in hi) this
      · rw [drop_out hi] at this
        exact blk_live.2 this
  have hO1 : ∀ b, O0 b → m.O b ∨ ∃ i, i ∉ fz ∧ i ∉ srcs ρ bs ∧ (η' i).blk ≠ none ∧ m i = some b := by
    rintro b (q | ⟨i, q1, q2⟩)
    · exact .inl q
    · have := blk_live.1 q1
      by_cases hi : i ∈ fz ++ srcs ρ bs
      · exact absurd (drop_in hi) this
      · rw [drop_out hi] at this
        simp only [List.mem_append, not_or] at hi
        exact .inr ⟨i, hi.1, hi.2, this, q2⟩
  have hO2 : ∀ i b, i ∉ fz → i ∉ srcs ρ bs → (η' i).blk ≠ none → m i = some b → O0 b := fun i b q1 q2 q3 q4 =>
    .inr ⟨i, blk_live.2 (by rw [drop_out (by simp [q1]; simpa using q2)]; exact q3), q4⟩
  have hm0 : ∀ i, (fE bs i).blk ≠ none → m0 i = match (η' (lk ρ i)).blk with | some _ => m (lk ρ i) | none => none := by
    intro i hi
    show (match (fE bs i).blk with | some _ => _ | none => none) = _
    cases hB : (fE bs i).blk with
    | none => exact absurd hB hi
    | some B => rfl
  have hm0s : ∀ i b, (fE bs i).blk ≠ none → m0 i = some b → (η' (lk ρ i)).blk ≠ none ∧ m (lk ρ i) = some b := by
    intro i b hi hb
    rw [hm0 i hi] at hb
    cases hB : (η' (lk ρ i)).blk with
    | none => rw [hB] at hb; cases hb
    | some B => rw [hB] at hb; exact ⟨by simp, hb⟩
  have hinj0 : ∀ i j, (fE bs i).blk ≠ none → (fE bs j).blk ≠ none → lk ρ i = lk ρ j → i = j := by
    intro i j hi hj e
    obtain ⟨p, hp, rfl⟩ := List.mem_map.1 (fE_live.1 hi)
    obtain ⟨q, hq, rfl⟩ := List.mem_map.1 (fE_live.1 hj)
    rw [nodup_inj (fun p : Nat × Blk => lk ρ p.1) o1 hp hq e]
  have hsrc0 : ∀ i, (fE bs i).blk ≠ none → lk ρ i ∈ srcs ρ bs := fun i hi => hlkmem (fE_live.1 hi)
  have hV0 : View w η' m (fE bs) m0 (lk ρ) (fun i => inB fz i = true) (fun i => inB (keys bs) i = true) := by
    refine ⟨?_, ?_, fun i _ hi => hm0 i hi⟩
    · rintro b (q | ⟨i, q1, q2⟩)
      · exact hO0 b q
      · obtain ⟨p1, p2⟩ := hm0s i b (blk_live.1 q1) q2
        exact .inr ⟨_, blk_live.2 p1, p2⟩
    · rintro i b hz hi hbi (q | ⟨j, q1, q2⟩)
      · rcases hO1 b q with q | ⟨k, k1, _, k3, k4⟩
        · exact h.mem.sep i b hi hbi q
        · have := h.mem.inj i k b hi k3 hbi k4
          subst this
          exact k1 (inB_iff.1 hz)
      · obtain ⟨p1, p2⟩ := hm0s j b (blk_live.1 q1) q2
        have := h.mem.inj i _ b hi p1 hbi p2
        subst this
        exact (hfz _ (inB_iff.1 hz)).2 (hsrc0 j (blk_live.1 q1))
  have hmem0 : Mem C.N w (fE bs) m0 := by
    refine ⟨fun i B hB => ?_, fun i j b hi hj hbi hbj => ?_, fun i b hi hbi => ?_, fun i b hi hbi ho => ?_, fun b hb => ?_, h.mem.big⟩
    · exact (hb1 i B (fE_mem hB)).ok hV0 h.mem (inB_iff.2 (fE_live.1 (by rw [hB]; simp))) hB
    · obtain ⟨p1, p2⟩ := hm0s i b hi hbi
      obtain ⟨q1, q2⟩ := hm0s j b hj hbj
      exact hinj0 i j hi hj (h.mem.inj _ _ b p1 q1 p2 q2)
    · obtain ⟨p1, p2⟩ := hm0s i b hi hbi
      exact h.mem.low _ b p1 p2
    · obtain ⟨p1, p2⟩ := hm0s i b hi hbi
      rcases hO1 b ho with q | ⟨k, _, k2, k3, k4⟩
      · exact h.mem.sep _ b p1 p2 q
      · have := h.mem.inj k _ b k3 p1 k4 p2
        subst this
        exact k2 (hsrc0 i hi)
    · rcases hO0 b hb with q | ⟨i, q1, q2⟩
      · exact h.mem.olt b q
      · exact ⟨h.mem.lt (blk_live.1 q1) q2, h.mem.low i b (blk_live.1 q1) q2⟩
  obtain ⟨us, hrun, hsz, hrvs⟩ := hrun0 w0 X m a w τ' η' hτ (fun i hi => hη i (.inl hi)) h
  unfold Oper.wp
  rw [hrun]
  refine Calls.mono (hc.2 w m0 us h.gl hmem0 (by have := hw'.len; omega) (fun j y v hy hv => ?_)) ?_
  · have hlt : j < xs.length := by rw [← hsz]; exact (Array.getElem?_eq_some_iff.1 hv).1
    have hx : xs[j]? = some xs[j] := List.getElem?_eq_getElem hlt
    exact (hw'.at j _ y hx hy).rv hV0 h.mem (hrvs j _ v hx hv)
  rintro e w' ⟨v, m1, rfl, gr⟩
  -- back in the caller
  have hX0 : ∀ b, (∃ i, (fE bs i).blk ≠ none ∧ m0 i = some b) → ∃ i, (fE bs i).blk ≠ none ∧ (η' (lk ρ i)).blk ≠ none ∧ m (lk ρ i) = some b := by
    rintro b ⟨i, q1, q2⟩
    obtain ⟨p1, p2⟩ := hm0s i b q1 q2
    exact ⟨i, q1, p1, p2⟩
  obtain ⟨η1, hη1⟩ : ∃ η1, η1 = updAll η' (go ++ nb) := ⟨_, rfl⟩
  have e1 : ∀ k, k ∉ idsE go → k ∉ idsE nb → η1 k = η' k := fun k q1 q2 => by
    rw [hη1, updAll_other (by simp only [List.map_append, List.mem_append, not_or]; exact ⟨q1, q2⟩)]
  have e2 : ∀ k, k ∈ idsE go → k ∉ idsE nb → η1 k = ⟨(η' k).ver + 1, none⟩ := fun k q1 q2 => by
    rw [hη1, updAll_append, updAll_other q2, upd_gone go η' (fun i => ⟨(η i).ver + 1, none⟩) k (allUs_at hgo), if_pos (show k ∈ go.map (·.1) from q1), hgoAt k q1]
  have e3 : ∀ k e, (k, e) ∈ nb → η1 k = e := fun k e q => by
    rw [hη1, updAll_append, updAll_at hidN q]
  have hids : ∀ k, k ∈ idsE nb → ∃ e j B B', (k, e) ∈ nb ∧ η1 k = e ∧ (j, B) ∈ bs' ∧ e.blk = some B' ∧ lk ρ j = k ∧ lk (backN ρ bs') k = j ∧ (j ∈ ks → e.ver = (η' k).ver ∧ some B'.sz = (η' k).blk.map Blk.sz) ∧ (j ∉ ks → k < n ∧ (η' k).ver + 1 < e.ver) ∧
      GB (fE bs') (updAll η (go ++ nb)) (lk (backN ρ bs')) (fun _ => False) (fun i => inB (idsE nb) i = true) (some B) B' := by
    intro k hk
    obtain ⟨⟨k', e⟩, hp, rfl⟩ := List.mem_map.1 hk
    obtain ⟨j, B, B', b1, b2, b3, b4, b5, b6⟩ := nbOk_at hnb k' e hp
    refine ⟨e, j, B, B', hp, e3 _ _ hp, b1, b2, b3, by rw [← b3]; exact backN_at o2 b1, fun hj => ?_, fun hj => ?_, b6⟩
    · rw [hnbAt _ hk]; exact b4 (inB_iff.2 hj)
    · rw [hnbAt _ hk]
      refine b5 ?_
      cases hq : inB ks j with
      | true => exact absurd (inB_iff.1 hq) hj
      | false => rfl
  have hlive1 : ∀ k, k ∉ idsE nb → (η1 k).blk ≠ none → k ∉ idsE go ∧ η1 k = η' k := by
    intro k q1 q2
    by_cases hk : k ∈ idsE go
    · rw [e2 k hk q1] at q2
      exact absurd rfl q2
    · exact ⟨hk, e1 k hk q1⟩
  have hfree : ∀ k, k ∉ idsE nb → k ∉ idsE go → k ∉ fz ∧ k ∉ srcs ρ bs := by
    intro k q1 q2
    refine ⟨fun hm => q2 (hfz k hm).1, fun hm => ?_⟩
    obtain ⟨p, hp, rfl⟩ := List.mem_map.1 hm
    have hpk : p.1 ∈ keys bs := List.mem_map.2 ⟨p, hp, rfl⟩
    rcases hbs p.1 hpk with q | q
    · exact q2 q
    · exact q1 (by rw [hidsn]; exact hlkmem (hkeep _ q).2.2)
  have hnX : ∀ k b, k ∉ idsE nb → k ∉ idsE go → (η' k).blk ≠ none → m k = some b → ¬ ∃ i, (fE bs i).blk ≠ none ∧ m0 i = some b := by
    intro k b q1 q2 q3 q4 hx
    obtain ⟨i, p1, p2, p3⟩ := hX0 b hx
    have := h.mem.inj k _ b q3 p2 q4 p3
    subst this
    exact (hfree _ q1 q2).2 (hsrc0 i p1)
  let m2 : MM := ⟨fun k => if k ∈ idsE nb then m1 (lk (backN ρ bs') k) else m k, m.O⟩
  have m2a : ∀ k, k ∈ idsE nb → m2 k = m1 (lk (backN ρ bs') k) := fun k hk => if_pos hk
  have m2b : ∀ k, k ∉ idsE nb → m2 k = m k := fun k hk => if_neg hk
  have hliveJ : ∀ k, k ∈ idsE nb → (fE bs' (lk (backN ρ bs') k)).blk ≠ none := by
    intro k hk
    obtain ⟨e, j, B, B', _, _, b1, _, _, b4, _⟩ := hids k hk
    rw [b4, fE_at o4 b1]
    simp
  have hV2 : View w' (fE bs') m1 η1 m2 (lk (backN ρ bs')) (fun _ => False) (fun i => inB (idsE nb) i = true) := by
    refine ⟨?_, fun i b hz => hz.elim, fun i ht _ => ?_⟩
    · rintro b (q | ⟨k, q1, q2⟩)
      · refine .inl ?_
        rw [gr.oo]
        exact .inl q
      · by_cases hk : k ∈ idsE nb
        · rw [m2a k hk] at q2
          exact .inr ⟨_, blk_live.2 (hliveJ k hk), q2⟩
        · rw [m2b k hk] at q2
          obtain ⟨p1, p2⟩ := hlive1 k hk (blk_live.1 q1)
          obtain ⟨f1, f2⟩ := hfree k hk p1
          refine .inl ?_
          rw [gr.oo]
          exact hO2 k b f1 f2 (by rw [← p2]; exact blk_live.1 q1) q2
    · have hk := inB_iff.1 ht
      rw [m2a i hk]
      cases hB : (fE bs' (lk (backN ρ bs') i)).blk with
      | none => exact absurd hB (hliveJ i hk)
      | some B => rfl
  have hsame : ∀ b, b < w.heap.size → (¬ ∃ i, (fE bs i).blk ≠ none ∧ m0 i = some b) → w'.heap[b]? = w.heap[b]? := fun b q1 q2 => gr.kin.block b q1 q2
  have hM : Mono w (shp η') m w' (shp η1) m2 := by
    refine ⟨gr.kin.size, fun b hb hno => hsame b hb (fun hx => ?_), fun b hb hno ho => hno ?_, fun k => ?_, fun k hk => ?_⟩
    · obtain ⟨i, _, p2, p3⟩ := hX0 b hx
      exact hno (.inr ⟨_, blk_live.2 p2, p3⟩)
    · rcases ho with q | ⟨k, q1, q2⟩
      · exact .inl q
      · by_cases hk : k ∈ idsE nb
        · rw [m2a k hk] at q2
          rcases gr.own _ b (hliveJ k hk) q2 with hx | hx
          · obtain ⟨i, _, p2, p3⟩ := hX0 b hx
            exact .inr ⟨_, blk_live.2 p2, p3⟩
          · omega
        · rw [m2b k hk] at q2
          obtain ⟨_, p2⟩ := hlive1 k hk (blk_live.1 q1)
          exact .inr ⟨k, blk_live.2 (by rw [← p2]; exact blk_live.1 q1), q2⟩
    · show (η' k).ver ≤ (η1 k).ver
      by_cases hk : k ∈ idsE nb
      · obtain ⟨e, j, B, B', _, b0, b1, b2, b3, b4, b5, b6, _⟩ := hids k hk
        rw [b0]
        by_cases hj : j ∈ ks
        · exact Nat.le_of_eq (b5 hj).1.symm
        · have := (b6 hj).2; omega
      · by_cases hg : k ∈ idsE go
        · rw [e2 k hg hk]; exact Nat.le_succ _
        · rw [e1 k hg hk]; exact Nat.le_refl _
    · have hk' : (η1 k).ver = (η' k).ver := hk
      by_cases hn : k ∈ idsE nb
      · obtain ⟨e, j, B, B', _, b0, b1, b2, b3, b4, b5, b6, _⟩ := hids k hn
        by_cases hj : j ∈ ks
        · obtain ⟨c1, c2⟩ := b5 hj
          refine ⟨?_, fun hl => ?_⟩
          · simp only [shp, b0, b2, c1, ← c2, Option.map_some]
          · obtain ⟨g1, g2⟩ := gr.ks j hj
            have hm0k : m0 j = m k := by
              rw [hm0 j (fE_live.2 (hkeep j hj).2.1), b3]
              cases hB : (η' k).blk with
              | none => exact absurd hB (blk_live.1 hl)
              | some B => rfl
            refine ⟨by rw [m2a k hn, b4, g1, hm0k], fun b hb => g2 b (by rw [hm0k, hb])⟩
        · have := (b6 hj).2
          rw [b0] at hk'
          omega
      · by_cases hg : k ∈ idsE go
        · rw [e2 k hg hn] at hk'
          simp at hk'
        · refine ⟨by simp only [shp, e1 k hg hn], fun hl => ⟨m2b k hn, fun b hb => ?_⟩⟩
          unfold World.shape?
          rw [hsame b (h.mem.lt (blk_live.1 hl) hb) (hnX k b hn hg (blk_live.1 hl) hb)]
  have hgbk : ∀ k B', (η1 k).blk = some B' → k ∈ idsE nb → GB (fE bs') η1 (lk (backN ρ bs')) (fun _ => False) (fun i => inB (idsE nb) i = true) (fE bs' (lk (backN ρ bs') k)).blk B' := by
    intro k B' hB hk
    obtain ⟨e, j, B, B2, _, b0, b1, b2, b3, b4, b5, b6, b7⟩ := hids k hk
    rw [b0, b2] at hB
    injection hB with hB
    subst hB
    rw [b4, fE_at o4 b1]
    exact b7.congr (fun i hi => hi.elim) (fun i hi => ⟨by
      obtain ⟨e', _, _, _, q1, q2, _⟩ := hids i (inB_iff.1 hi)
      rw [q2, updAll_append, updAll_at hidN q1], rfl⟩)
  have hmem : Mem C.N w' η1 m2 := by
    refine ⟨fun k B hB => ?_, fun i j b hi hj hbi hbj => ?_, fun k b hk hb => ?_, fun k b hk hb => ?_, fun b hb => ⟨Nat.lt_of_lt_of_le (h.mem.olt b hb).1 gr.kin.size, (h.mem.olt b hb).2⟩, Nat.le_trans h.mem.big gr.kin.size⟩
    · by_cases hk : k ∈ idsE nb
      · exact (hgbk k B hB hk).ok hV2 gr.mem (inB_iff.2 hk) hB
      · obtain ⟨p1, p2⟩ := hlive1 k hk (by rw [hB]; simp)
        rw [m2b k hk]
        have hB' : (η' k).blk = some B := by rw [← p2]; exact hB
        exact (h.mem.ok k B hB').mono hM (fun b hb => hsame b (h.mem.lt (by rw [hB']; simp) hb) (hnX k b hk p1 (by rw [hB']; simp) hb))
    · have cross : ∀ i j, i ∈ idsE nb → j ∉ idsE nb → (η1 j).blk ≠ none → m2 i = some b → m2 j = some b → False := by
        intro i j hi hj hl hbi hbj
        rw [m2a i hi] at hbi
        rw [m2b j hj] at hbj
        obtain ⟨p1, p2⟩ := hlive1 j hj hl
        have hl' : (η' j).blk ≠ none := by rw [← p2]; exact hl
        rcases gr.own _ b (hliveJ i hi) hbi with hx | hx
        · exact hnX j b hj p1 hl' hbj hx
        · have := h.mem.lt hl' hbj
          omega
      by_cases hin : i ∈ idsE nb <;> by_cases hjn : j ∈ idsE nb
      · rw [m2a i hin] at hbi
        rw [m2a j hjn] at hbj
        have hij := gr.mem.inj _ _ b (hliveJ i hin) (hliveJ j hjn) hbi hbj
        obtain ⟨_, j1, _, _, _, _, _, _, c1, c2, _⟩ := hids i hin
        obtain ⟨_, j2, _, _, _, _, _, _, d1, d2, _⟩ := hids j hjn
        rw [c2, d2] at hij
        rw [← c1, ← d1, hij]
      · exact (cross i j hin hjn hj hbi hbj).elim
      · exact (cross j i hjn hin hi hbj hbi).elim
      · rw [m2b i hin] at hbi
        rw [m2b j hjn] at hbj
        obtain ⟨_, p2⟩ := hlive1 i hin hi
        obtain ⟨_, q2⟩ := hlive1 j hjn hj
        exact h.mem.inj i j b (by rw [← p2]; exact hi) (by rw [← q2]; exact hj) hbi hbj
    · by_cases hn : k ∈ idsE nb
      · rw [m2a k hn] at hb
        exact gr.mem.low _ b (hliveJ k hn) hb
      · rw [m2b k hn] at hb
        obtain ⟨_, p2⟩ := hlive1 k hn hk
        exact h.mem.low k b (by rw [← p2]; exact hk) hb
    · by_cases hn : k ∈ idsE nb
      · rw [m2a k hn] at hb
        intro ho
        exact gr.mem.sep _ b (hliveJ k hn) hb (by rw [gr.oo]; exact .inl ho)
      · rw [m2b k hn] at hb
        obtain ⟨_, p2⟩ := hlive1 k hn hk
        exact h.mem.sep k b (by rw [← p2]; exact hk) hb
  have hXb : ∀ b, (∃ i, (fE bs i).blk ≠ none ∧ m0 i = some b) → X b ∨ w0.heap.size ≤ b := fun b hx => by
    obtain ⟨i, _, p2, p3⟩ := hX0 b hx
    exact h.own _ b p2 p3
  have hkin : Kin w0 X.X w' := ⟨gr.kin.os.trans h.kin.os, gr.kin.tape.trans h.kin.tape, gr.kin.output.trans h.kin.output, Nat.le_trans h.kin.size gr.kin.size, fun b hb hx => by
    rw [hsame b (Nat.lt_of_lt_of_le hb h.kin.size) (fun hq => ?_), h.kin.block b hb hx]
    rcases hXb b hq with q | q
    · exact hx q
    · omega⟩
  have hrep := h.move hM hmem hkin rfl (fun k b hk hb => ?_) (fun k hk => ?_)
  · refine ⟨m2, ?_⟩
    have hr' : GW (fE bs') η1 (lk (backN ρ bs')) (fun _ => False) (fun i => inB (idsE nb) i = true) r r' := hr.congr (fun i hi => hi.elim) (fun i hi => ⟨by
      obtain ⟨e', _, _, _, q1, q2, _⟩ := hids i (inB_iff.1 hi)
      rw [q2, updAll_append, updAll_at hidN q1], rfl⟩)
    have := hrep.put hd (hr'.rv hV2 gr.mem gr.rv)
    rw [hη1] at this
    exact this
  · by_cases hn : k ∈ idsE nb
    · rw [m2a k hn] at hb
      rcases gr.own _ b (hliveJ k hn) hb with hx | hx
      · exact hXb b hx
      · exact .inr (Nat.le_trans h.kin.size hx)
    · rw [m2b k hn] at hb
      obtain ⟨_, p2⟩ := hlive1 k hn hk
      exact h.own k b (by rw [← p2]; exact hk) hb
  · by_cases hn : k ∈ idsE nb
    · obtain ⟨e, j, B, B', _, b0, b1, b2, b3, b4, b5, b6, _⟩ := hids k hn
      rw [b0]
      by_cases hj : j ∈ ks
      · exact (b5 hj).1
      · have := (b6 hj).1; omega
    · by_cases hg : k ∈ idsE go
      · obtain ⟨p, hp, rfl⟩ := List.mem_map.1 hg
        have := ltUs_at hgl p hp
        omega
      · rw [e1 k hg hn]
theorem lf_callG {o : Oper} {τ : Nat → AV} {η : Nat → Ent} {f : FuncId} {os : Array Operand} {ats : Array TypeId} {r r' : AV} {xs ys : List AV} {bs bs' : List (Nat × Blk)} {ks : List Nat} (ρ : List (Nat × Nat)) (fz : List Nat) (go nb : List (Nat × Ent))
    (ho : o.op = .call ⟨.value (.func f), os, ats⟩) (hd : InB n o.dst) (hargs : os.toList.map (evA τ) = xs) (hc : ACallG C f ys bs ks r bs')
    (hok : okC ρ fz bs ks bs' (idsE go) = true) (hgo : allUs η go) (hgl : ltUs n go)
    (hw : GWL η (fE bs) (lk ρ) (fun i => inB fz i = true) (fun i => inB (keys bs) i = true) xs ys) (hb : GBL η (fE bs) (lk ρ) (fun i => inB fz i = true) (fun i => inB (keys bs) i = true) bs)
    (hr : GW (fE bs') (updAll η (go ++ nb)) (lk (backN ρ bs')) (fun _ => False) (fun i => inB (idsE nb) i = true) r r')
    (hnb : nbOk n η (updAll η (go ++ nb)) ρ ks (fE bs') (lk (backN ρ bs')) (fun i => inB (idsE nb) i = true) bs' nb) : LF C n o τ η ⟨r', go ++ nb, []⟩ := by
  subst hargs
  refine lf_callV ρ fz go nb [] (fun w0 X m a w τ' η' g1 _ h => ⟨os.map a.eval, ?_, by simp, fun j x v hx hv => ?_⟩) hd hc hok hgo hgl hw hb hr hnb
  · simp [execOp, ho, resolve, Act.eval, Deferred.ofValue, invoke, hc.1]
  · have hmap : os.toList.map (evA τ) = os.toList.map (evA τ') := List.map_congr_left (fun y hy => (g1 y (by simp [ho, Op.operands, Call.operands]; exact .inr (by simpa using hy))).symm)
    rw [hmap] at hx
    rw [Array.getElem?_map] at hv
    cases hj : os[j]? with
    | none => rw [hj] at hv; cases hv
    | some q =>
      rw [hj] at hv
      simp at hv
      subst hv
      simp [hj] at hx
      subst hx
      exact h.ev q
end
/-- a pure contract as a general one -/
theorem ACall.g {C : Cx} {f : FuncId} {args : List AV} {r : AV} (h : ACall C f args r) : ACallG C f args [] [] r [] := by
  refine ⟨h.1, fun w m cargs hg hM hsz hargs => ?_⟩
  have hnov : shp (fE []) = nov := by funext i; rfl
  have hfr : ∀ (m : MM), ∀ b, Owned nov (mO m.O) b ↔ Owned (shp (fE [])) m b := fun m b => by
    rw [hnov]
    constructor
    · rintro (q | ⟨i, q1, _⟩)
      · exact .inl q
      · exact absurd rfl q1
    · rintro (q | ⟨i, q1, _⟩)
      · exact .inl q
      · exact absurd rfl q1
  have hMono : ∀ (w : World) (m m' : MM), m.O = m'.O → Mono w nov m w nov m' := fun w m m' hO =>
    ⟨Nat.le_refl _, fun _ _ _ => rfl, fun b _ hno ho => hno (by
      rcases ho with q | ⟨i, q1, _⟩
      · exact .inl (by rw [hO]; exact q)
      · exact absurd rfl q1), fun _ => Nat.le_refl _, fun i _ => ⟨rfl, fun hl => absurd rfl hl⟩⟩
  refine Calls.mono (h.2 w m.O cargs hg hM.big hM.olt hsz (fun j x v hx hv => (by have := hargs j x v hx hv; rw [hnov] at this; exact this.mono (hMono w m (mO m.O) rfl)))) ?_
  rintro e w' ⟨v, rfl, h1, h2, h3⟩
  refine ⟨v, m, rfl, by rw [hnov]; exact h1.mono (hMono w' (mO m.O) m rfl), ?_, rfl, ⟨h2.os, h2.tape, h2.output, h2.size, fun b hb _ => h2.block b hb (by simp)⟩, fun i b hi => absurd rfl hi, fun i hi => (by cases hi), h3⟩
  exact ⟨fun i B hB => (by cases hB), fun i j b hi => absurd rfl hi, fun i b hi => absurd rfl hi, fun i b hi => absurd rfl hi, fun b hb => ⟨Nat.lt_of_lt_of_le (hM.olt b hb).1 h2.size, (hM.olt b hb).2⟩, Nat.le_trans hM.big h2.size⟩
end Go.Proofs.YtflgpccacloadaaDoor.Am
/- A call that is lent own memory and leaves it as it is: it only reads. -/
namespace Go.Proofs.YtflgpccacloadaaDoor.Am
theorem TyOk.arrayU {P : Program} {t : TypeId} {ti : TI} {m : Nat} {e : TypeId} (h : TyOk P t ti) (hk : ti.kind = .array m e) : P.underlying t = some (.array m e) := by
  obtain ⟨d, h1, h2⟩ := h.und
  rw [hk] at h2
  cases d <;> simp [TK.fits] at h2
  rw [h1, h2.1, h2.2]
/-- the address of an element of an array in own memory -/
theorem lf_arrAt {C : Cx} {n : Nat} {o : Oper} {τ : Nat → AV} {η : Nat → Ent} {t e : TypeId} {x y : Operand} {ti te : TI} {i ver k j m : Nat} {kd : IntKind} {z : Int} {B : Blk} (ho : o.op = .indexAddr t x y) (hd : InB n o.dst) (hx : evA τ x = .ptr i ver k j) (hi : η i = ⟨ver, some B⟩) (hy : evA τ y = .c (.int kd z)) (ht : TyOk C.P t ti) (hk : ti.kind = .array m e) (hte : TyOk C.P e te)
    (h0 : 0 ≤ z) (h1 : z < m) : LF C n o τ η ⟨.ptr i ver k (j + z.toNat * te.sz), [], [i]⟩ := by
  refine lf_pure hd (fun τ' η' g1 g2 => ?_)
  intro w0 X mm a w h
  have hi' : η' i = ⟨ver, some B⟩ := (g2 i (List.mem_singleton.2 rfl)).trans hi
  have e1 := h.ev x
  have e2 := h.ev y
  rw [g1 x (by simp [ho, Op.operands]), hx] at e1
  rw [g1 y (by simp [ho, Op.operands]), hy] at e2
  obtain ⟨b, hb, hu⟩ := rv_ptr e1 hi'
  refine ⟨.pointer (some ⟨b, k * B.sz + (j + z.toNat * te.sz), none⟩), ?_, .ptr (by simp [shp, hi']) hb⟩
  have hrun := run_underlying (P := C.P) (ht.arrayU hk)
  simp [execOp, ho, hu, rv_c e2, Instr.indexAt, asIntOf, hrun, Instr.sureAddr, hte.size, h0, h1, add_plain, Nat.add_assoc]
theorem cons_eq {α : Type} {a b : α} {l m : List α} (h : a = b) (h2 : l = m) : a :: l = b :: m := by rw [h, h2]
theorem sl_dt {α : Type} {e : AV} {k m n : Nat} {f : α → List AV} {l : List α} (h : e = AV.sl k (List.drop m (List.take n (List.map f l)))) : e = AV.sl k (List.map f (List.drop m (List.take n l))) := h.trans (by rw [List.map_drop, List.map_take])
end Go.Proofs.YtflgpccacloadaaDoor.Am
/- Plain laws of texts: split at a byte, cut at a byte, words, and words for models. -/
namespace Go.Proofs.YtflgpccacloadaaDoor.Am
open Go.RowKit

/-- the bytes of a text -/
abbrev bl (s : ByteArray) : List UInt8 := s.data.toList
def ofB (l : List UInt8) : ByteArray := ⟨l.toArray⟩
theorem ofB_bl (s : ByteArray) : ofB (bl s) = s := by obtain ⟨⟨l⟩⟩ := s; rfl
theorem bl_inj {s t : ByteArray} (h : bl s = bl t) : s = t := by rw [← ofB_bl s, ← ofB_bl t, h]
theorem bl_len (s : ByteArray) : (bl s).length = s.size := (Lib.size_eq s).symm
theorem toList_bl (s : ByteArray) : s.toList = bl s := ByteArray.toList_eq s
theorem bl_extract (s : ByteArray) (a b : Nat) : bl (s.extract a b) = ((bl s).drop a).take (b - a) := by rw [← toList_bl, Lib.extract_toList]
theorem bl_append (s t : ByteArray) : bl (s ++ t) = bl s ++ bl t := by
  show (s ++ t).data.toList = _
  simp
section
variable {α β γ δ : Type}
theorem sel_dec {p : Prop} [Decidable p] {x y : Option α} : sel (decide p) x y = if p then x else y := by
  unfold sel
  by_cases h : p <;> simp [h]
theorem sel_not {b : Bool} {x y : Option α} : sel (!b) x y = sel b y x := by cases b <;> rfl
theorem grd_t {p : Prop} [Decidable p] {x : Option α} (h : p) : grd p x = x := if_pos h
theorem ixn_at {l : List α} {n : Nat} {y : α} {k : α → Option β} (h : l[n]? = some y) : ixn l n k = k y := by rw [ixn, h]
theorem ix_at {l : List α} {n : Nat} {y : α} {k : α → Option β} (h : l[n]? = some y) : ix l (n : Int) k = k y := by
  rw [ix, Int.toNat_natCast, ixn_at h, grd_t (Int.natCast_nonneg n)]
theorem ob1_some {a : α} {k : α → Option β} : ob1 (some a) k = k a := rfl
theorem ob2_some {a : α} {b : β} {k : α → β → Option γ} : ob2 (some (a, b)) k = k a b := rfl
theorem ob3_some {a : α} {b : β} {c : γ} {k : α → β → γ → Option δ} : ob3 (some (a, b, c)) k = k a b c := rfl
theorem beq_int (a b : Int) : (a == b) = decide (a = b) := by by_cases h : a = b <;> simp [h]
end
end Go.Proofs.YtflgpccacloadaaDoor.Am
/- Plain: comparisons of strings, of lists of strings, of atoms. -/
namespace Go.Proofs.YtflgpccacloadaaDoor.Am
open Go.RowKit
structure GAtom where
  Name : ByteArray
  Args : List ByteArray
  deriving DecidableEq
instance : Inhabited GAtom := ⟨⟨⟨#[]⟩, []⟩⟩
def cGAtom (x : GAtom) : List AV := [.c (.string x.Name), .sl 1 (x.Args.map cS)]
theorem fr_cGAtom (x : GAtom) : ∀ y ∈ cGAtom x, Fr y := FrC_cons (.c _) (FrC_cons (.sl (frl_cS _)) (FrC_nil))
theorem frl_cGAtom (l : List GAtom) : FrL (l.map cGAtom) := FrL_map (fun x _ => fr_cGAtom x)
instance {l : List GAtom} : FrI (l.map cGAtom) := ⟨frl_cGAtom l⟩
theorem beq_bl (s t : ByteArray) : (s.toList == t.toList) = decide (s = t) := by
  rw [toList_bl, toList_bl]
  by_cases h : s = t
  · subst h; simp
  · have : bl s ≠ bl t := fun e => h (bl_inj e)
    rw [beq_eq_false_iff_ne.2 this, decide_eq_false h]
section
variable {X Y Z : Type}
/-- a comparison: a strict order, and 0 for equal arguments alone -/
structure IsCmp (c : Z → Z → Int) : Prop where
  eq : ∀ x y, c x y = 0 ↔ x = y
  anti : ∀ x y, c x y < 0 ↔ 0 < c y x
  trans : ∀ x y z, c x y < 0 → c y z < 0 → c x z < 0
theorem IsCmp.self {c : Z → Z → Int} (h : IsCmp c) (x : Z) : c x x = 0 := (h.eq x x).2 rfl
theorem IsCmp.le_trans {c : Z → Z → Int} (h : IsCmp c) {x y z : Z} (h1 : c x y ≤ 0) (h2 : c y z ≤ 0) : c x z ≤ 0 := by
  by_cases e1 : c x y = 0
  · rw [(h.eq x y).1 e1]; exact h2
  · by_cases e2 : c y z = 0
    · rw [← (h.eq y z).1 e2]; exact h1
    · have := h.trans x y z (by omega) (by omega)
      omega
theorem IsCmp.total {c : Z → Z → Int} (h : IsCmp c) (x y : Z) : c x y ≤ 0 ∨ c y x < 0 := by
  have := h.anti y x
  omega
theorem IsCmp.le_asym {c : Z → Z → Int} (h : IsCmp c) {x y : Z} (h1 : c x y ≤ 0) (h2 : c y x ≤ 0) : x = y := by
  have := h.anti x y
  exact (h.eq x y).1 (by omega)
def pairC (c : X → X → Int) (d : Y → Y → Int) (x y : X × Y) : Int := if c x.1 y.1 = 0 then d x.2 y.2 else c x.1 y.1
theorem IsCmp.pair {c : X → X → Int} {d : Y → Y → Int} (a : IsCmp c) (b : IsCmp d) : IsCmp (pairC c d) := by
  refine ⟨fun x y => ?_, fun x y => ?_, fun x y z => ?_⟩
  · unfold pairC
    rw [Prod.ext_iff]
    by_cases h : c x.1 y.1 = 0
    · rw [if_pos h, b.eq]
      exact ⟨fun e => ⟨(a.eq _ _).1 h, e⟩, fun e => e.2⟩
    · rw [if_neg h]
      exact ⟨fun e => absurd e h, fun e => absurd ((a.eq _ _).2 e.1) h⟩
  · unfold pairC
    by_cases h : c x.1 y.1 = 0
    · rw [if_pos h, if_pos ((a.eq _ _).2 ((a.eq _ _).1 h).symm)]
      exact b.anti _ _
    · rw [if_neg h, if_neg (fun e => h ((a.eq _ _).2 ((a.eq _ _).1 e).symm))]
      exact a.anti _ _
  · unfold pairC
    by_cases h : c x.1 y.1 = 0
    · rw [if_pos h, (a.eq _ _).1 h]
      by_cases h2 : c y.1 z.1 = 0
      · rw [if_pos h2, if_pos h2]; exact b.trans _ _ _
      · rw [if_neg h2, if_neg h2]; exact fun _ e => e
    · rw [if_neg h]
      by_cases h2 : c y.1 z.1 = 0
      · rw [if_pos h2, ← (a.eq _ _).1 h2, if_neg h]
        exact fun e _ => e
      · rw [if_neg h2]
        intro e1 e2
        have := a.trans _ _ _ e1 e2
        rw [if_neg (by omega)]
        exact this
theorem IsCmp.inj {c : Z → Z → Int} (a : IsCmp c) (f : X → Z) (hf : ∀ x y, f x = f y → x = y) : IsCmp (fun x y => c (f x) (f y)) :=
  ⟨fun x y => (a.eq _ _).trans ⟨hf x y, fun e => by rw [e]⟩, fun x y => a.anti _ _, fun x y z => a.trans _ _ _⟩
def lexC (c : Z → Z → Int) : List Z → List Z → Int
  | [], [] => 0
  | [], _ :: _ => -1
  | _ :: _, [] => 1
  | a :: r, b :: q => if c a b = 0 then lexC c r q else c a b
theorem lexC_eq {c : Z → Z → Int} (a : IsCmp c) : ∀ x y, lexC c x y = 0 ↔ x = y
  | [], [] => by simp [lexC]
  | [], _ :: _ => by simp [lexC]
  | _ :: _, [] => by simp [lexC]
  | x :: xs, y :: ys => by
    rw [lexC]
    by_cases h : c x y = 0
    · rw [if_pos h, lexC_eq a xs ys]
      simp [(a.eq x y).1 h]
    · rw [if_neg h]
      exact ⟨fun e => absurd e h, fun e => absurd ((a.eq _ _).2 (List.cons.inj e).1) h⟩
theorem lexC_anti {c : Z → Z → Int} (a : IsCmp c) : ∀ x y, lexC c x y < 0 ↔ 0 < lexC c y x
  | [], [] => by simp [lexC]
  | [], _ :: _ => by simp [lexC]
  | _ :: _, [] => by simp [lexC]
  | x :: xs, y :: ys => by
    rw [lexC, lexC]
    by_cases h : c x y = 0
    · rw [if_pos h, if_pos ((a.eq _ _).2 ((a.eq _ _).1 h).symm)]
      exact lexC_anti a xs ys
    · rw [if_neg h, if_neg (fun e => h ((a.eq _ _).2 ((a.eq _ _).1 e).symm))]
      exact a.anti _ _
theorem lexC_trans {c : Z → Z → Int} (a : IsCmp c) : ∀ x y z, lexC c x y < 0 → lexC c y z < 0 → lexC c x z < 0
  | [], [], z => by simp [lexC]
  | [], _ :: _, [] => by simp [lexC]
  | [], _ :: _, _ :: _ => by simp [lexC]
  | _ :: _, [], z => by simp [lexC]
  | _ :: _, _ :: _, [] => by simp [lexC]
  | x :: xs, y :: ys, z :: zs => by
    rw [lexC, lexC, lexC]
    by_cases h : c x y = 0
    · rw [if_pos h, (a.eq _ _).1 h]
      by_cases h2 : c y z = 0
      · rw [if_pos h2, if_pos h2]; exact lexC_trans a xs ys zs
      · rw [if_neg h2, if_neg h2]; exact fun _ e => e
    · rw [if_neg h]
      by_cases h2 : c y z = 0
      · rw [if_pos h2, ← (a.eq _ _).1 h2, if_neg h]
        exact fun e _ => e
      · rw [if_neg h2]
        intro e1 e2
        have := a.trans _ _ _ e1 e2
        rw [if_neg (by omega)]
        exact this
theorem IsCmp.lex {c : Z → Z → Int} (a : IsCmp c) : IsCmp (lexC c) := ⟨lexC_eq a, lexC_anti a, lexC_trans a⟩
end
def byteC (a b : UInt8) : Int := if a < b then -1 else if b < a then 1 else 0
def intC (a b : Int) : Int := if a = b then 0 else if a < b then -1 else 1
theorem byteC_cmp : IsCmp byteC := by
  have key : ∀ a b : UInt8, byteC a b = intC (a.toNat : Int) (b.toNat : Int) := fun a b => by
    unfold byteC intC
    simp only [UInt8.lt_iff_toNat_lt]
    repeat' split
    all_goals omega
  have hi : ∀ a b : UInt8, (a.toNat : Int) = (b.toNat : Int) → a = b := fun a b h => UInt8.toNat_inj.1 (by omega)
  refine ⟨fun x y => ?_, fun x y => ?_, fun x y z => ?_⟩
  · rw [key]
    unfold intC
    refine ⟨fun h => hi x y ?_, fun h => by subst h; simp⟩
    revert h
    repeat' split
    all_goals omega
  · rw [key, key]
    unfold intC
    repeat' split
    all_goals omega
  · rw [key, key, key]
    unfold intC
    repeat' split
    all_goals omega
theorem cmpB_lex : ∀ x y, Lib.compareBytes x y = lexC byteC x y
  | [], [] => rfl
  | [], _ :: _ => rfl
  | _ :: _, [] => rfl
  | a :: x, b :: y => by
    rw [Lib.compareBytes, lexC, cmpB_lex x y, byteC]
    by_cases h1 : a < b
    · rw [if_pos h1, if_pos h1, if_neg (by decide)]
    · rw [if_neg h1, if_neg h1]
      by_cases h2 : b < a
      · rw [if_pos h2, if_pos h2, if_neg (by decide)]
      · rw [if_neg h2, if_neg h2, if_pos rfl]
/-- strings -/
def strC (s t : ByteArray) : Int := Lib.compareBytes (bl s) (bl t)
theorem strC_cmp : IsCmp strC := by
  have h := byteC_cmp.lex.inj bl (fun x y => bl_inj)
  have e : (fun x y => lexC byteC (bl x) (bl y)) = strC := by funext x y; exact (cmpB_lex _ _).symm
  rwa [e] at h
theorem less_cmpB : ∀ x y, Op.bytesLess x y = decide (Lib.compareBytes x y < 0)
  | [], [] => rfl
  | _ :: _, [] => rfl
  | [], _ :: _ => rfl
  | a :: x, b :: y => by
    rw [Op.bytesLess, less_cmpB x y, Lib.compareBytes]
    by_cases h1 : a < b
    · rw [if_pos h1]; simp [h1]
    · rw [if_neg h1]
      by_cases h2 : b < a
      · rw [if_pos h2]
        have : ¬ a = b := fun e => by subst e; exact h1 h2
        simp [h1, this]
      · rw [if_neg h2]
        have : a = b := UInt8.le_antisymm (UInt8.not_lt.1 h2) (UInt8.not_lt.1 h1)
        simp [this]
theorem less_str (s t : ByteArray) : Op.bytesLess s.toList t.toList = decide (strC s t < 0) := by rw [toList_bl, toList_bl, less_cmpB]; rfl
/-- atoms -/
def atomC (x y : GAtom) : Int := pairC strC (lexC strC) (x.Name, x.Args) (y.Name, y.Args)
theorem atomC_cmp : IsCmp atomC := (strC_cmp.pair strC_cmp.lex).inj (fun x : GAtom => (x.Name, x.Args)) (fun x y h => by
  obtain ⟨x1, x2⟩ := x
  obtain ⟨y1, y2⟩ := y
  simp at h
  simp [h])
theorem atomC_def (x y : GAtom) : atomC x y = if strC x.Name y.Name = 0 then lexC strC x.Args y.Args else strC x.Name y.Name := rfl
theorem cmpB_val : ∀ a b, Lib.compareBytes a b = if Lib.compareBytes a b < 0 then -1 else if a = b then 0 else 1
  | [], [] => rfl
  | [], _ :: _ => rfl
  | _ :: _, [] => rfl
  | p :: a, q :: b => by
    have ih := cmpB_val a b
    rw [Lib.compareBytes]
    by_cases h1 : p < q
    · simp [h1]
    · by_cases h2 : q < p
      · have : ¬ p = q := fun e => by subst e; exact h1 h2
        simp [h1, h2, this]
      · have : p = q := UInt8.le_antisymm (UInt8.not_lt.1 h2) (UInt8.not_lt.1 h1)
        subst this
        simp only [h1, if_false, List.cons.injEq, true_and]
        exact ih
theorem strC_val (s t : ByteArray) : strC s t = if Op.bytesLess s.toList t.toList = true then -1 else if s.toList == t.toList then 0 else 1 := by
  rw [less_str, beq_bl]
  unfold strC
  rw [cmpB_val]
  by_cases h : Lib.compareBytes (bl s) (bl t) < 0
  · simp [h]
  · simp only [h, if_false, decide_false, Bool.false_eq_true]
    by_cases e : s = t
    · subst e; simp
    · rw [if_neg (fun q => e (bl_inj q)), decide_eq_false e]
      simp
end Go.Proofs.YtflgpccacloadaaDoor.Am
