/- stratagemlaw16.DatalogLimits returns true for every input. No condition beyond the card's own. -/
import Derived.Test.YtflgpccacloadaaDoorB4
import Derived.Test.YtflgpccacloadaaDoorB2
import Derived.Test.YtflgpccacloadaaDoorB3
import Derived.Laws.BytesArg
import Derived.Test.YtflgpccacloadaaDoorCards
import Derived.Test.YtflgpccacloadaaDoorTie
import Derived.Test.YtflgpccacloadaaDoorB1
import Derived.WalkKit
import Derived.ProofKit
import Derived.OpenShut
import Derived.Deep.DeepHandedRow
import Derived.Lib.LaidTab
import Derived.Lib.ItoaNum
set_option linter.unusedVariables false
set_option linter.unusedSectionVars false
set_option linter.unusedSimpArgs false
/- Plain law: what the search finds, said by assignments. -/
namespace Go.Proofs.YtflgpccacloadaaDoor.Am
open Go.RowKit
abbrev Asg := ByteArray → ByteArray
def trm (σ : Asg) (s : ByteArray) : ByteArray := if isV s = true then σ s else s
def inst (σ : Asg) (a : GAtom) : GAtom := ⟨a.Name, a.Args.map (trm σ)⟩
/-- an assignment goes on from a binding -/
def Agr (b : Bd) (σ : Asg) : Prop := ∀ s v, getM b s = some v → σ s = v
theorem getM_setM {b : Bd} {k v s : ByteArray} : getM (setM b k v) s = if k = s then some v else getM b s := by
  induction b with
  | nil => rw [setM, getM]; split <;> simp [getM] <;> assumption
  | cons y r ih =>
    obtain ⟨x, u⟩ := y
    rw [setM]
    by_cases e : x = k
    · rw [if_pos e, getM, getM]
      by_cases e2 : k = s
      · rw [if_pos e2, if_pos e2]
      · rw [if_neg e2, if_neg e2, if_neg (fun e3 => e2 (e ▸ e3))]
    · rw [if_neg e, getM, getM, ih]
      by_cases e2 : x = s
      · rw [if_pos e2, if_pos e2, if_neg (fun e3 => e (e2.trans e3.symm))]
      · rw [if_neg e2, if_neg e2]
theorem tB_none {b : Bd} {s : ByteArray} (h : tB b s = none) : isV s = true ∧ getM b s = none := by
  unfold tB at h
  split at h
  · exact ⟨by assumption, h⟩
  · cases h
theorem agr_set {b : Bd} {s c : ByteArray} {σ : Asg} (h : getM b s = none) : Agr (setM b s c) σ ↔ Agr b σ ∧ σ s = c := by
  constructor
  · intro ha
    refine ⟨fun t v ht => ha t v ?_, ha s c ?_⟩
    · rw [getM_setM, if_neg (fun e => by rw [e, ht] at h; cases h)]; exact ht
    · rw [getM_setM, if_pos rfl]
  · rintro ⟨h1, h2⟩ t v ht
    rw [getM_setM] at ht
    split at ht
    · rename_i e; rw [← e, h2]; exact Option.some.inj ht
    · exact h1 t v ht
theorem tB_agr {b : Bd} {s x : ByteArray} {σ : Asg} (ha : Agr b σ) (h : tB b s = some x) : trm σ s = x := by
  unfold tB at h
  unfold trm
  split at h
  · rename_i e; rw [if_pos e]; exact ha _ _ h
  · rename_i e; rw [if_neg e]; exact Option.some.inj h
theorem uni_sound {σ : Asg} : ∀ (xs cs : List ByteArray) (b : Bd) (fr : List ByteArray), xs.length = cs.length → (uni b fr xs cs).2.1 = true → Agr (uni b fr xs cs).2.2 σ → xs.map (trm σ) = cs ∧ Agr b σ
  | [], [], b, fr, _, _, h => ⟨rfl, by rw [uni] at h; exact h; simp⟩
  | s :: r, [], b, fr, hl, _, _ => by simp at hl
  | [], c :: q, b, fr, hl, _, _ => by simp at hl
  | s :: r, c :: q, b, fr, hl, h1, h2 => by
    rw [uni] at h1 h2
    cases ht : tB b s with
    | none =>
      rw [ht] at h1 h2
      obtain ⟨hv, hg⟩ := tB_none ht
      obtain ⟨h3, h4⟩ := uni_sound r q _ _ (by simpa using hl) h1 h2
      obtain ⟨h5, h6⟩ := (agr_set hg).1 h4
      exact ⟨by rw [List.map_cons, h3, trm, if_pos hv, h6], h5⟩
    | some x =>
      rw [ht] at h1 h2
      simp only [] at h1 h2
      by_cases e : x = c
      · rw [if_pos e] at h1 h2
        obtain ⟨h3, h4⟩ := uni_sound r q _ _ (by simpa using hl) h1 h2
        exact ⟨by rw [List.map_cons, h3, tB_agr h4 ht, e], h4⟩
      · rw [if_neg e] at h1; cases h1
theorem uni_comp {σ : Asg} : ∀ (xs cs : List ByteArray) (b : Bd) (fr : List ByteArray), xs.map (trm σ) = cs → Agr b σ → (uni b fr xs cs).2.1 = true ∧ Agr (uni b fr xs cs).2.2 σ
  | [], [], b, fr, _, h => by rw [uni]; exact ⟨rfl, h⟩; simp
  | s :: r, [], b, fr, hl, _ => by simp at hl
  | [], c :: q, b, fr, hl, _ => by simp at hl
  | s :: r, c :: q, b, fr, hl, ha => by
    obtain ⟨h1, h2⟩ := List.cons.inj hl
    rw [uni]
    cases ht : tB b s with
    | none =>
      obtain ⟨hv, hg⟩ := tB_none ht
      refine uni_comp r q _ _ h2 ((agr_set hg).2 ⟨ha, ?_⟩)
      rw [← h1, trm, if_pos hv]
    | some x =>
      simp only []
      rw [if_pos (by rw [← h1, tB_agr ha ht])]
      exact uni_comp r q _ _ h2 ha
theorem getM_key {b : Bd} {s : ByteArray} : getM b s = none ↔ s ∉ b.map Prod.fst := by
  induction b with
  | nil => simp [getM]
  | cons y r ih =>
    obtain ⟨x, u⟩ := y
    rw [getM, List.map_cons, List.mem_cons]
    by_cases e : x = s
    · rw [if_pos e]; simp [e]
    · rw [if_neg e, ih]
      simp [Ne.symm e]
theorem set_keys {b : Bd} {s c : ByteArray} (h : getM b s = none) : (setM b s c).map Prod.fst = b.map Prod.fst ++ [s] := by
  rw [setM_none (fun p hp e => (getM_key.1 h) (List.mem_map.2 ⟨p, hp, e⟩)), List.map_append]
  rfl
theorem uni_keys : ∀ (xs cs : List ByteArray) (b : Bd) (fr : List ByteArray), xs.length = cs.length → (uni b fr xs cs).2.1 = true → (uni b fr xs cs).2.2.map Prod.fst = xs.foldl addV (b.map Prod.fst)
  | [], [], b, fr, _, _ => by rw [uni]; rfl; simp
  | s :: r, [], b, fr, hl, _ => by simp at hl
  | [], c :: q, b, fr, hl, _ => by simp at hl
  | s :: r, c :: q, b, fr, hl, h1 => by
    rw [uni] at h1 ⊢
    rw [List.foldl_cons]
    cases ht : tB b s with
    | none =>
      rw [ht] at h1
      obtain ⟨hv, hg⟩ := tB_none ht
      have := uni_keys r q _ _ (by simpa using hl) h1
      refine this.trans ?_
      rw [set_keys hg, addV, if_pos hv, if_neg (getM_key.1 hg)]
    | some x =>
      rw [ht] at h1
      simp only [] at h1 ⊢
      by_cases e : x = c
      · rw [if_pos e] at h1 ⊢
        refine (uni_keys r q _ _ (by simpa using hl) h1).trans ?_
        unfold tB at ht
        split at ht
        · rename_i hv
          rw [addV, if_pos hv, if_pos]
          refine Classical.byContradiction fun hn => ?_
          rw [getM_key.2 hn] at ht
          cases ht
        · rename_i hv
          rw [addV, if_neg hv]
      · rw [if_neg e] at h1; cases h1
theorem dif_agr {b : Bd} {un : List (ByteArray × ByteArray)} {σ : Asg} (ha : Agr b σ) (h : ∀ p ∈ un, trm σ p.1 ≠ trm σ p.2) : dif b un = true := by
  refine List.all_eq_true.2 fun p hp => ?_
  unfold difP
  split
  · rename_i x y h1 h2
    rw [← tB_agr ha h1, ← tB_agr ha h2]
    exact decide_eq_true (h p hp)
  · rfl
theorem sols_comp {S : GSet} {un : List (ByteArray × ByteArray)} {σ : Asg} (hu : ∀ p ∈ un, trm σ p.1 ≠ trm σ p.2) : ∀ (body : List GAtom) (b : Bd), Agr b σ → (∀ a ∈ body, inst σ a ∈ S) → ∃ b' ∈ sols S un body b, Agr b' σ
  | [], b, ha, _ => by
    rw [sols, if_pos (dif_agr ha hu)]
    exact ⟨b, List.mem_singleton.2 rfl, ha⟩
  | a :: r, b, ha, h => by
    rw [sols, if_pos (dif_agr ha hu)]
    have h1 := h a (List.mem_cons_self ..)
    obtain ⟨h2, h3⟩ := uni_comp a.Args (inst σ a).Args b [] rfl ha
    obtain ⟨b', h4, h5⟩ := sols_comp hu r _ h3 (fun x hx => h x (List.mem_cons_of_mem _ hx))
    refine ⟨b', List.mem_flatMap.2 ⟨inst σ a, grp_mem.2 ⟨h1, rfl, by simp [inst]⟩, ?_⟩, h5⟩
    rw [if_pos h2]
    exact h4
theorem sols_sound {S : GSet} {un : List (ByteArray × ByteArray)} : ∀ (body : List GAtom) (b b' : Bd), b' ∈ sols S un body b →
    dif b' un = true ∧ b'.map Prod.fst = (body.flatMap (·.Args)).foldl addV (b.map Prod.fst) ∧ ∀ σ, Agr b' σ → Agr b σ ∧ ∀ a ∈ body, inst σ a ∈ S
  | [], b, b', h => by
    rw [sols] at h
    split at h
    · rename_i hd
      rw [List.mem_singleton.1 h]
      exact ⟨hd, rfl, fun σ hs => ⟨hs, fun a ha => by cases ha⟩⟩
    · cases h
  | a :: r, b, b', h => by
    rw [sols] at h
    split at h
    · obtain ⟨f, hf, h⟩ := List.mem_flatMap.1 h
      obtain ⟨g1, g2, g3⟩ := grp_mem.1 hf
      split at h
      · rename_i hu
        obtain ⟨h1, h2, h3⟩ := sols_sound r _ b' h
        refine ⟨h1, ?_, fun σ hs => ?_⟩
        · rw [h2, uni_keys _ _ _ _ g3.symm hu, List.flatMap_cons, List.foldl_append]
        · obtain ⟨h4, h5⟩ := h3 σ hs
          obtain ⟨h6, h7⟩ := uni_sound _ _ _ _ g3.symm hu h4
          refine ⟨h7, fun x hx => ?_⟩
          rcases List.mem_cons.1 hx with e | e
          · subst e
            have : inst σ x = f := by
              obtain ⟨n, q⟩ := f
              unfold inst
              simp only at g2 h6
              rw [h6, g2]
            rw [this]; exact g1
          · exact h5 x e
      · cases h
    · cases h
/-- the assignment of a binding -/
def asg (b : Bd) : Asg := fun s => (getM b s).getD (⟨#[]⟩ : ByteArray)
theorem agr_asg (b : Bd) : Agr b (asg b) := fun s v h => by unfold asg; rw [h]; rfl
theorem tB_key {b : Bd} {s : ByteArray} (h : isV s = true → s ∈ b.map Prod.fst) : ∃ x, tB b s = some x := by
  unfold tB
  split
  · rename_i hv
    cases hg : getM b s with
    | none => exact absurd (h hv) (getM_key.1 hg)
    | some x => exact ⟨x, rfl⟩
  · exact ⟨s, rfl⟩
theorem hatom_agr {b : Bd} {h : GAtom} {σ : Asg} (ha : Agr b σ) (hk : ∀ s ∈ h.Args, isV s = true → s ∈ b.map Prod.fst) : hatom b h = inst σ h := by
  unfold hatom inst
  congr 1
  refine List.map_congr_left fun s hs => ?_
  obtain ⟨x, hx⟩ := tB_key (hk s hs)
  rw [hx, tB_agr ha hx]
  rfl
theorem dif_sound {b : Bd} {un : List (ByteArray × ByteArray)} {σ : Asg} (ha : Agr b σ) (hk : ∀ p ∈ un, (isV p.1 = true → p.1 ∈ b.map Prod.fst) ∧ (isV p.2 = true → p.2 ∈ b.map Prod.fst)) (h : dif b un = true) : ∀ p ∈ un, trm σ p.1 ≠ trm σ p.2 := by
  intro p hp
  have h1 := List.all_eq_true.1 h p hp
  obtain ⟨x, hx⟩ := tB_key (hk p hp).1
  obtain ⟨y, hy⟩ := tB_key (hk p hp).2
  unfold difP at h1
  rw [hx, hy] at h1
  rw [tB_agr ha hx, tB_agr ha hy]
  exact of_decide_eq_true h1
/-- a rule whose terms are known -/
structure Known (r : GRule) : Prop where
  head : ∀ s ∈ r.Head.Args, isV s = true → s ∈ vars r.Body
  un : ∀ p ∈ r.Unequal, (isV p.1 = true → p.1 ∈ vars r.Body) ∧ (isV p.2 = true → p.2 ∈ vars r.Body)
theorem known_of {r : GRule} (h : ckR r = .nil) : Known r := by
  unfold ckR at h
  split at h
  · cases h
  · rename_i hn
    have hn : ∀ s ∈ terms r, isV s = true → s ∈ vars r.Body := fun s hs hv => Classical.byContradiction fun q => hn (List.any_eq_true.2 ⟨s, hs, by unfold badT; rw [hv, decide_eq_false q]; rfl⟩)
    refine ⟨fun s hs => hn s (List.mem_append_left _ hs), fun p hp => ⟨hn _ (List.mem_append_right _ ?_), hn _ (List.mem_append_right _ ?_)⟩⟩
    · exact List.mem_flatMap.2 ⟨p, hp, by simp⟩
    · exact List.mem_flatMap.2 ⟨p, hp, by simp⟩
/-- an assignment that satisfies a rule's body -/
def Sat (S : GAtom → Prop) (r : GRule) (σ : Asg) : Prop := (∀ a ∈ r.Body, S (inst σ a)) ∧ ∀ p ∈ r.Unequal, trm σ p.1 ≠ trm σ p.2
theorem rheads_mem {S : GSet} {r : GRule} (hk : Known r) {z : GAtom} : z ∈ rheads S r ↔ ∃ σ, Sat (· ∈ S) r σ ∧ z = inst σ r.Head := by
  unfold rheads rsols
  rw [List.mem_map]
  constructor
  · rintro ⟨b, hb, rfl⟩
    obtain ⟨h1, h2, h3⟩ := sols_sound _ _ _ hb
    refine ⟨asg b, ⟨(h3 _ (agr_asg b)).2, dif_sound (agr_asg b) (fun p hp => ?_) h1⟩, hatom_agr (agr_asg b) (fun s hs => ?_)⟩
    · rw [h2]; exact hk.un p hp
    · rw [h2]; exact hk.head s hs
  · rintro ⟨σ, ⟨h1, h2⟩, rfl⟩
    obtain ⟨b, hb, ha⟩ := sols_comp h2 r.Body [] (fun s v h => by cases h) h1
    refine ⟨b, hb, hatom_agr ha (fun s hs => ?_)⟩
    rw [(sols_sound _ _ _ hb).2.1]
    exact hk.head s hs
theorem allH_mem {S : GSet} {rules : List GRule} (hk : ∀ r ∈ rules, Known r) {z : GAtom} : z ∈ allH S rules ↔ ∃ r ∈ rules, ∃ σ, Sat (· ∈ S) r σ ∧ z = inst σ r.Head := by
  unfold allH
  rw [List.mem_flatMap]
  constructor
  · rintro ⟨r, hr, h⟩; exact ⟨r, hr, (rheads_mem (hk r hr)).1 h⟩
  · rintro ⟨r, hr, h⟩; exact ⟨r, hr, (rheads_mem (hk r hr)).2 h⟩
end Go.Proofs.YtflgpccacloadaaDoor.Am
/- Plain law: how many bindings and heads there are. -/
namespace Go.Proofs.YtflgpccacloadaaDoor.Am
open Go.RowKit
def prodL (C : List ByteArray) : Nat → List (List ByteArray)
  | 0 => [[]]
  | n + 1 => C.flatMap (fun c => (prodL C n).map (c :: ·))
theorem prodL_len (C : List ByteArray) : ∀ n, (prodL C n).length = C.length ^ n
  | 0 => rfl
  | n + 1 => by
    have h := prodL_len C n
    rw [prodL, List.length_flatMap]
    have : (C.map fun c => ((prodL C n).map (c :: ·)).length).sum = C.length * (prodL C n).length := by
      generalize prodL C n = P
      induction C with
      | nil => simp
      | cons x r ih => 
        have e : ∀ l : List ByteArray, (l.map fun c => (P.map (c :: ·)).length).sum = l.length * P.length := by
          intro l
          induction l with
          | nil => simp
          | cons y q ih2 => rw [List.map_cons, List.sum_cons, ih2, List.length_map, List.length_cons, Nat.succ_mul]; omega
        exact e _
    rw [this, h, Nat.pow_succ, Nat.mul_comm]
theorem prodL_mem {C : List ByteArray} : ∀ {n : Nat} {l : List ByteArray}, l.length = n → (∀ x ∈ l, x ∈ C) → l ∈ prodL C n
  | 0, [], _, _ => List.mem_singleton.2 rfl
  | n + 1, x :: r, h, hc => by
    rw [prodL]
    exact List.mem_flatMap.2 ⟨x, hc x (List.mem_cons_self ..), List.mem_map.2 ⟨r, prodL_mem (by simpa using h) (fun y hy => hc y (List.mem_cons_of_mem _ hy)), rfl⟩⟩
  | 0, x :: r, h, _ => by simp at h
  | n + 1, [], h, _ => by simp at h
theorem nodup_flatMap {α β : Type} {f : α → List β} : ∀ {l : List α}, l.Nodup → (∀ x ∈ l, (f x).Nodup) → (∀ x ∈ l, ∀ y ∈ l, x ≠ y → ∀ z, z ∈ f x → z ∈ f y → False) → (l.flatMap f).Nodup
  | [], _, _, _ => List.nodup_nil
  | a :: r, hn, h1, h2 => by
    obtain ⟨ha, hr⟩ := List.nodup_cons.1 hn
    rw [List.flatMap_cons]
    refine List.nodup_append.2 ⟨h1 a (List.mem_cons_self ..), nodup_flatMap hr (fun x hx => h1 x (List.mem_cons_of_mem _ hx)) (fun x hx y hy => h2 x (List.mem_cons_of_mem _ hx) y (List.mem_cons_of_mem _ hy)), fun z hz w hw e => ?_⟩
    obtain ⟨x, hx, hw⟩ := List.mem_flatMap.1 hw
    exact h2 a (List.mem_cons_self ..) x (List.mem_cons_of_mem _ hx) (fun q => ha (q ▸ hx)) z hz (e ▸ hw)
theorem sols_nodup {S : GSet} (hS : S.Nodup) {un : List (ByteArray × ByteArray)} : ∀ (body : List GAtom) (b : Bd), (sols S un body b).Nodup
  | [], b => by
    rw [sols]
    split <;> simp
  | a :: r, b => by
    rw [sols]
    split
    · refine nodup_flatMap (by rw [grp_eq]; exact hS.filter _) (fun f _ => ?_) (fun f hf f' hf' hne z hz hz' => ?_)
      · split
        · exact sols_nodup hS r _
        · exact List.nodup_nil
      · obtain ⟨_, g2, g3⟩ := grp_mem.1 hf
        obtain ⟨_, g2', g3'⟩ := grp_mem.1 hf'
        split at hz
        · rename_i hu
          split at hz'
          · rename_i hu'
            have h1 := ((sols_sound r _ z hz).2.2 _ (agr_asg z)).1
            have h1' := ((sols_sound r _ z hz').2.2 _ (agr_asg z)).1
            have h2 := (uni_sound _ _ _ _ g3.symm hu h1).1
            have h2' := (uni_sound _ _ _ _ g3'.symm hu' h1').1
            refine hne ?_
            obtain ⟨n, x⟩ := f
            obtain ⟨n', x'⟩ := f'
            simp only at g2 g2' h2 h2'
            rw [g2, g2', ← h2, ← h2']
          · cases hz'
        · cases hz
    · exact List.nodup_nil
theorem uni_vals {C : List ByteArray} : ∀ (xs cs : List ByteArray) (b : Bd) (fr : List ByteArray), (∀ x ∈ cs, x ∈ C) → (∀ p ∈ b, p.2 ∈ C) → ∀ p ∈ (uni b fr xs cs).2.2, p.2 ∈ C
  | [], cs, b, fr, _, h => by rw [uni]; exact h; simp
  | s :: r, [], b, fr, _, h => by rw [uni]; exact h; simp
  | s :: r, c :: q, b, fr, hc, h => by
    rw [uni]
    cases ht : tB b s with
    | none =>
      refine uni_vals r q _ _ (fun x hx => hc x (List.mem_cons_of_mem _ hx)) (fun p hp => ?_)
      rw [setM_none (fun p hp e => (getM_key.1 (tB_none ht).2) (List.mem_map.2 ⟨p, hp, e⟩))] at hp
      rcases List.mem_append.1 hp with e | e
      · exact h p e
      · rw [List.mem_singleton.1 e]; exact hc c (List.mem_cons_self ..)
    | some x =>
      simp only []
      split
      · exact uni_vals r q _ _ (fun x hx => hc x (List.mem_cons_of_mem _ hx)) h
      · exact h
/-- a set over some constants -/
def Over (C : List ByteArray) (S : GSet) : Prop := ∀ a ∈ S, ∀ x ∈ a.Args, x ∈ C
theorem sols_vals {C : List ByteArray} {S : GSet} (hS : Over C S) {un : List (ByteArray × ByteArray)} : ∀ (body : List GAtom) (b b' : Bd), (∀ p ∈ b, p.2 ∈ C) → b' ∈ sols S un body b → ∀ p ∈ b', p.2 ∈ C
  | [], b, b', hb, h => by
    rw [sols] at h
    split at h
    · rw [List.mem_singleton.1 h]; exact hb
    · cases h
  | a :: r, b, b', hb, h => by
    rw [sols] at h
    split at h
    · obtain ⟨f, hf, h⟩ := List.mem_flatMap.1 h
      split at h
      · exact sols_vals hS r _ b' (uni_vals _ _ _ _ (hS f (grp_mem.1 hf).1) hb) h
      · cases h
    · cases h
theorem zip_eq {α β : Type} : ∀ {l l' : List (α × β)}, l.map Prod.fst = l'.map Prod.fst → l.map Prod.snd = l'.map Prod.snd → l = l'
  | [], [], _, _ => rfl
  | [], y :: r, h, _ => by simp at h
  | x :: r, [], h, _ => by simp at h
  | (a, b) :: r, (c, d) :: q, h, h' => by
    obtain ⟨h1, h2⟩ := List.cons.inj h
    obtain ⟨h3, h4⟩ := List.cons.inj h'
    simp only at h1 h3
    rw [h1, h3, zip_eq h2 h4]
theorem rsols_len {C : List ByteArray} {S : GSet} (hS : Over C S) (hn : S.Nodup) (r : GRule) : (rsols S r).length ≤ C.length ^ (vars r.Body).length := by
  have h1 : ((rsols S r).map (fun b => b.map Prod.snd)).Nodup := by
    refine List.pairwise_map.2 ((sols_nodup hn r.Body []).imp_of_mem (fun {b b'} hb hb' hne e => hne (zip_eq ?_ e)))
    rw [(sols_sound _ _ _ hb).2.1, (sols_sound _ _ _ hb').2.1]
  have h2 := nodup_sub (b := prodL C (vars r.Body).length) h1 (fun l hl => by
    obtain ⟨b, hb, rfl⟩ := List.mem_map.1 hl
    refine prodL_mem ?_ (fun x hx => ?_)
    · rw [List.length_map, ← List.length_map (f := Prod.fst), (sols_sound _ _ _ hb).2.1]; rfl
    · obtain ⟨p, hp, rfl⟩ := List.mem_map.1 hx
      exact sols_vals hS _ _ _ (fun p hp => by cases hp) hb p hp)
  rw [prodL_len, List.length_map] at h2
  exact h2
/-- the atoms that a rule can make -/
def made1 (C : List ByteArray) (r : GRule) : List GAtom :=
  if r.Head.Args.length ≤ (vars r.Body).length then (prodL C r.Head.Args.length).map (fun l => ⟨r.Head.Name, l⟩)
  else (prodL C (vars r.Body).length).map (fun l => hatom ((vars r.Body).zip l) r.Head)
theorem flat_len {α β : Type} (f : α → List β) (n : α → Nat) (hf : ∀ x, (f x).length = n x) : ∀ l : List α, (l.flatMap f).length = (l.map n).sum
  | [] => rfl
  | x :: r => by rw [List.flatMap_cons, List.length_append, flat_len f n hf r, List.map_cons, List.sum_cons, hf]
theorem flat_le {α β : Type} (f : α → List β) (k : Nat) : ∀ l : List α, (∀ x ∈ l, (f x).length ≤ k) → (l.flatMap f).length ≤ l.length * k
  | [], _ => by simp
  | x :: r, h => by
    rw [List.flatMap_cons, List.length_append, List.length_cons, Nat.succ_mul]
    have h1 := h x (List.mem_cons_self ..)
    have h2 := flat_le f k r (fun y hy => h y (List.mem_cons_of_mem _ hy))
    omega
/-- the constants of a program -/
def addC (out : List ByteArray) (s : ByteArray) : List ByteArray := if s ∈ out then out else if isV s = true then out else out ++ [s]
def consts (l : List GAtom) : List ByteArray := (l.flatMap (·.Args)).foldl addC []
end Go.Proofs.YtflgpccacloadaaDoor.Am
/- Plain law: the sizes of a program (Large). -/
namespace Go.Proofs.YtflgpccacloadaaDoor.Am
open Go.RowKit
/-- a rule that is not too large -/
structure SmR (r : GRule) : Prop where
  body : r.Body.length ≤ 3 ∨ 17 ≤ r.Body.length
  b20 : r.Body.length ≤ 20
  un : r.Unequal.length ≤ 6
  atoms : ∀ a ∈ r.Head :: r.Body, a.Args.length ≤ 8 ∧ a.Name.size ≤ 100
def rAtoms (r : GRule) : List GAtom := r.Head :: r.Body
def allA (p : GProgram) : List GAtom := p.Facts ++ p.Rules.flatMap rAtoms
structure Small (p : GProgram) : Prop where
  facts : p.Facts.length ≤ 30
  rules : p.Rules.length ≤ 8
  fargs : ∀ a ∈ p.Facts, a.Args.length ≤ 8 ∧ a.Name.size ≤ 100
  rule : ∀ r ∈ p.Rules, SmR r
  pow : ∀ r ∈ p.Rules, (consts (allA p)).length ^ (vars r.Body).length < 1000
  sum : (p.Rules.map (fun r => (consts (allA p)).length ^ min r.Head.Args.length (vars r.Body).length)).sum ≤ 150
end Go.Proofs.YtflgpccacloadaaDoor.Am
/- Plain law: the reference's comparison, membership and insertion of atoms. -/
namespace Go.Proofs.YtflgpccacloadaaDoor.Am
open Go.RowKit
/-- atoms of few arguments -/
def Few (g : Nat) (l : List GAtom) : Prop := ∀ a ∈ l, a.Args.length ≤ 1000000000 ∧ a.Args.length < g
end Go.Proofs.YtflgpccacloadaaDoor.Am
/- Plain law: the reference's bindings. -/
namespace Go.Proofs.YtflgpccacloadaaDoor.Am
open Go.RowKit
def rep (b : Bd) (s : ByteArray) : ByteArray := (getM b s).getD s
section
variable (S : GSet) (body : List GAtom) (un : List (ByteArray × ByteArray)) (vs : List ByteArray) (G : Nat)
  (hn : vs.Nodup) (hV : ∀ s ∈ vs, isV s = true) (hvl : vs.length * 16 ≤ 140737488355328) (hgv : vs.length < G) (hgu : un.length < G) (hgS : S.length < G) (hgA : Few G body) (hfS : Few G S) (hG : G ≤ 4611686018427387904) (hbl : body.length < G)
  (hpow : ∀ m, m ≤ body.length → S.length ^ m * 24 ≤ 140737488355328)
include hn hV hvl hgv hgu hgS hgA hfS hG hbl hpow
end
end Go.Proofs.YtflgpccacloadaaDoor.Am
/- Plain law: the reference's Round and Solve. -/
namespace Go.Proofs.YtflgpccacloadaaDoor.Am
open Go.RowKit
/-- a world that is small enough -/
structure Wd (rules : List GRule) (S : GSet) : Prop where
  str : StrA S
  len : S.length ≤ 4096
  args : ∀ a ∈ S, a.Args.length ≤ 8
  known : ∀ r ∈ rules, Known r
  rule : ∀ r ∈ rules, r.Body.length ≤ 3 ∧ r.Unequal.length ≤ 6 ∧ ∀ a ∈ r.Head :: r.Body, a.Args.length ≤ 8
  cnt : (allH S rules).length ≤ 100000
  nr : rules.length ≤ 8
end Go.Proofs.YtflgpccacloadaaDoor.Am
/- Plain law: the model of a program that is not too large. -/
namespace Go.Proofs.YtflgpccacloadaaDoor.Am
open Go.RowKit
/-- what follows from the facts by the rules -/
inductive Der (facts : List GAtom) (rules : List GRule) : GAtom → Prop
  | fact {a : GAtom} : a ∈ facts → Der facts rules a
  | rule {r : GRule} {σ : Asg} : r ∈ rules → (∀ a ∈ r.Body, Der facts rules (inst σ a)) → (∀ p ∈ r.Unequal, trm σ p.1 ≠ trm σ p.2) → Der facts rules (inst σ r.Head)
structure Good (p : GProgram) : Prop where
  sm : Small p
  hx : ∀ a ∈ allA p, ∀ x ∈ a.Args, isV x = false → x.size ≤ 140737488355328
def CC (p : GProgram) : List ByteArray := consts (allA p)
theorem firstE_of : ∀ {l : List GRule}, (∀ r ∈ l, ckR r = .nil) → firstE l = .nil
  | [], _ => rfl
  | x :: q, h => by
    rw [firstE, h x (List.mem_cons_self ..)]
    exact firstE_of (fun r hr => h r (List.mem_cons_of_mem _ hr))
theorem dec_len : ∀ u : Nat, (Lib.decDigits u).length ≤ u + 1 := by
  intro u
  induction u using Nat.strongRecOn with
  | _ u ih =>
    by_cases h : u < 10
    · rw [dec_sm h]; simp
    · rw [dec_bg h, List.length_append]
      have := ih (u / 10) (by omega)
      simp only [List.length_cons, List.length_nil]
      omega
theorem keyOk_of {a : GAtom} (hn : a.Name.size ≤ 100) (hl : a.Args.length ≤ 8) (hx : ∀ x ∈ a.Args, x.size ≤ 140737488355328) : KeyOk a := by
  refine ⟨?_, by omega⟩
  rw [← bl_len]
  unfold atomKey
  rw [bl_fold, bl_append, bl_append, bl_ita, List.length_append, List.length_append, List.length_append, bl_len, bl_len]
  have h1 := dec_len a.Name.size
  have h2 : (⟨#[32]⟩ : ByteArray).size = 1 := rfl
  have h3 : (a.Args.flatMap encL).length ≤ a.Args.length * 300000000000000 := flat_le _ _ _ (fun x hm => by
    have h4 := dec_len x.size
    have h5 := hx x hm
    unfold encL
    rw [List.length_cons, List.length_append, List.length_cons, bl_len]
    omega)
  have h4 : a.Args.length * 300000000000000 ≤ 8 * 300000000000000 := Nat.mul_le_mul_right _ hl
  omega
/-- the sets that a run reaches -/
structure Inv (p : GProgram) (S : GSet) : Prop where
  ck : ∀ r ∈ p.Rules, ckR r = .nil
  str : StrA S
  over : Over (CC p) S
  sml : ∀ a ∈ S, a.Args.length ≤ 8 ∧ a.Name.size ≤ 100
  frm : ∀ a ∈ S, a ∈ p.Facts ++ p.Rules.flatMap (made1 (CC p))
section
variable {p : GProgram} (hp : Good p)
include hp
end
end Go.Proofs.YtflgpccacloadaaDoor.Am
/- Models printed by my decompiler, and the proofs that the code computes them. -/
namespace Go.Proofs.YtflgpccacloadaaDoor.Am
open Go.RowKit
end Go.Proofs.YtflgpccacloadaaDoor.Am
/- Plain law: DatalogSolves. -/
namespace Go.Proofs.YtflgpccacloadaaDoor.Am
open Go.RowKit
/-- what the guards ask -/
structure PrgOk (p : GProgram) : Prop where
  fl : p.Facts.length ≤ 3600000000000
  rl : p.Rules.length ≤ 3600000000000
  hx : ∀ a ∈ allA p, ∀ x ∈ a.Args, isV x = false → x.size ≤ 140737488355328
def GG : Nat := 4000000000000
end Go.Proofs.YtflgpccacloadaaDoor.Am
/- Readers of programs of facts and rules, with the sizes of their strings. -/
namespace Go.Proofs.YtflgpccacloadaaDoor.Am
open Go.RowKit Go.ChangeShapes Go.WideShapes Go.Deep Go.Joins
section
variable {H : Type} {enc : TypeId × Value → H} {w : World} {base : Nat} {spare : Nat → Bool} {held : Bool}
end
end Go.Proofs.YtflgpccacloadaaDoor.Am
/- string(b) of a row of bytes of the call's own. -/
namespace Go.Proofs.YtflgpccacloadaaDoor.Am
open Go.RowKit

/-- string(b): b a row of bytes of the call's own -/
theorem lf_str {C : Cx} {n : Nat} {o : Oper} {τ : Nat → AV} {η : Nat → Ent} {src dst e : TypeId} {ts td : TI} {x : Operand} {i ver len : Nat} {B : Blk} {xs : List Int} (ho : o.op = .convert src dst x) (hd : InB n o.dst) (hx : evA τ x = .own i ver 0 len) (hi : η i = ⟨ver, some B⟩) (hB : B.els = xs.map c_u8) (hsz : B.sz = 1) (hl : len = xs.length)
    (hs : TyOk C.P src ts) (hsk : ts.kind = .slice e) (ht : TyOk C.P dst td) (hk : td.kind = .str) (he : C.P.underlying e = some (.int .u8)) : LF C n o τ η ⟨.c (.string (strOfNums xs)), [], [i]⟩ := by
  refine lf_pure hd (fun τ' η' g1 g2 => ?_)
  intro w0 X mm a w h
  have hi' : η' i = ⟨ver, some B⟩ := (g2 i (List.mem_singleton.2 rfl)).trans hi
  have e1 := h.ev x
  rw [g1 x (by simp [ho, Op.operands]), hx] at e1
  obtain ⟨vs, x1, x2, x3⟩ := own_row e1 hi' (h.mem.ok i _ (by rw [hi'])) (by rw [hB, List.length_map, hl])
  refine ⟨_, ?_, .c _⟩
  have hst : C.P.underlying dst = some .string := by
    obtain ⟨d, d1, d2⟩ := ht.und
    rw [hk] at d2
    cases d <;> simp [TK.fits] at d2
    exact d1
  have hsl := hs.sliceU hsk
  have hcell : ∀ k, k < len → vs[k]? = some (.int .u8 (xs.getD k 0)) := fun k hkl => by
    have hz := List.getElem?_eq_getElem (l := xs) (i := k) (by omega)
    obtain ⟨_, q3⟩ := x2.2 k (c_u8 xs[k]) (by rw [hB, List.getElem?_map, hz]; rfl)
    obtain ⟨u, u1, _, u2⟩ := q3 0 _ rfl
    have e := rv_c u2
    rw [hsz] at u1
    have u1' : vs[k]? = some u := by simpa using u1
    rw [u1', e, List.getD_eq_getElem?_getD, hz]
    rfl
  have hfin : (convert src dst (a.eval x)).run C.P w = .ok (.string (strOfNums xs)) w := by
    rcases x1.2 with ⟨hv, h0⟩ | ⟨g, cap, cur, hv, _, hg, hnc, hcm, hcs, htk⟩
    · have : xs = [] := List.length_eq_zero_iff.1 (by omega)
      subst this
      rw [hv]
      exact run_convert_bytes_nil w src e hsl he 0 0 dst hst
    · rw [hv]
      refine run_convert_bytes_arg w src e hsl he g 0 len cap xs hl.symm (fun k hkl => ?_) dst hst
      have := x1.cells (g := g) (by rw [hv]; rfl) k _ (hcell k hkl)
      by_cases hk0 : k = 0
      · subst hk0; simpa [Addr.add] using this
      · simpa [Addr.add, hk0] using this
  simp [execOp, ho, hfin]
end Go.Proofs.YtflgpccacloadaaDoor.Am
/- Models printed by my decompiler, and the proofs that the code computes them. -/
namespace Go.Proofs.YtflgpccacloadaaDoor.Am
open Go.RowKit
theorem ci_XDLLimits {p K : Prop} (k : K) (h : p := by first | rfl | exact ⟨rfl, rfl⟩ | exact BW.mpf rfl rfl rfl FrI.h rfl | exact cloK3 rfl rfl rfl rfl rfl rfl rfl rfl rfl | exact CloK.bw (BW.fr (by assumption)) | exact BW.fr FrV.h | (refine BW.fr ?_; assumption) | (refine ⟨rfl, ?_⟩; (simp [cGAtom, c_u8, cF, take_len_map]; done)) | (refine RowK.same ?_ FrI.h; first | rfl | (simp [cGAtom, c_u8, cF, take_len_map]; done)) | (refine row_part1 ?_; (repeat (first | exact BWL.nil | exact bwll_nil | exact bw_c | exact BW.sl | exact BW.nil | exact bwll_same rfl FrI.h | refine BWL.cons ?_ ?_ | refine bwll_cons ?_ ?_ | (refine bw_own3 rfl rfl rfl FrI.h ?_ ?_ ?_) | exact BW.mpf rfl rfl rfl FrI.h rfl | exact cloK3 rfl rfl rfl rfl rfl rfl rfl rfl rfl | exact CloK.bw (BW.fr (by assumption)) | exact BW.fr FrV.h | exact BW.fr (by assumption) | refine bw_agg ?_ | refine bw_clo ?_ | refine bw_ptr rfl rfl rfl ?_ | (refine bw_own rfl rfl rfl ?_ FrI.h ?_ ?_) | assumption | omega | rfl | (rw [List.length_map, ← List.length_append]; assumption) | (refine bwll_same ?_ FrI.h; (simp [cGAtom, c_u8, cF] <;> fail)) | (rw [List.map_set]; refine bwll_set (by first | rfl | omega | simp) ?_ ?_) | refine bwll_set (by first | rfl | omega | simp) ?_ ?_ | (rw [List.map_replicate]; refine bwll_rep ?_) | refine bwll_rep ?_ | (rw [List.map_append]; refine bwll_append ?_ ?_) | refine bwll_append ?_ ?_ | (simp [cGAtom, c_u8, cF, take_len_map] <;> fail) | (rw [List.drop_zero, List.take_of_length_le] <;> first | rfl | (simp [cGAtom, c_u8, cF] <;> fail)) | (simp; omega) | (simp only [List.length_map, List.length_append, List.drop_zero, List.length_cons, List.length_nil, Nat.zero_add, Nat.add_zero] at *; omega))); done) | ((repeat (first | exact BWL.nil | exact bwll_nil | exact bw_c | exact BW.sl | exact BW.nil | exact bwll_same rfl FrI.h | refine BWL.cons ?_ ?_ | refine bwll_cons ?_ ?_ | (refine bw_own3 rfl rfl rfl FrI.h ?_ ?_ ?_) | exact BW.mpf rfl rfl rfl FrI.h rfl | exact cloK3 rfl rfl rfl rfl rfl rfl rfl rfl rfl | exact CloK.bw (BW.fr (by assumption)) | exact BW.fr FrV.h | exact BW.fr (by assumption) | refine bw_agg ?_ | refine bw_clo ?_ | refine bw_ptr rfl rfl rfl ?_ | (refine bw_own rfl rfl rfl ?_ FrI.h ?_ ?_) | assumption | omega | rfl | (rw [List.length_map, ← List.length_append]; assumption) | (refine bwll_same ?_ FrI.h; (simp [cGAtom, c_u8, cF] <;> fail)) | (rw [List.map_set]; refine bwll_set (by first | rfl | omega | simp) ?_ ?_) | refine bwll_set (by first | rfl | omega | simp) ?_ ?_ | (rw [List.map_replicate]; refine bwll_rep ?_) | refine bwll_rep ?_ | (rw [List.map_append]; refine bwll_append ?_ ?_) | refine bwll_append ?_ ?_ | (simp [cGAtom, c_u8, cF, take_len_map] <;> fail) | (rw [List.drop_zero, List.take_of_length_le] <;> first | rfl | (simp [cGAtom, c_u8, cF] <;> fail)) | (simp; omega) | (simp only [List.length_map, List.length_append, List.drop_zero, List.length_cons, List.length_nil, Nat.zero_add, Nat.add_zero] at *; omega))); done) | (simp [cGAtom, c_u8, cF, take_len_map]; done)) : p ∧ K := ⟨h, k⟩
theorem ca_XDLLimits {P : Prop} (h : P := by repeat (first | exact True.intro | refine ci_XDLLimits ?_)) : P := h
theorem pr_XDLLimits {p K : Prop} (k : K) (h : p := by first | assumption | exact Int.natCast_nonneg _ | exact Nat.le_refl _ | exact Nat.zero_le _ | omega | (simp; done) | (simp; omega)) : p ∧ K := ⟨h, k⟩
theorem pl_XDLLimits {p K : Prop} (k : K) (h : p := by first | rfl | exact List.length_map _ | (simp; done) | (simp; omega)) : p ∧ K := ⟨h, k⟩
theorem pe_XDLLimits {p K : Prop} (k : K) (h : p := by first | omega | (simp; omega) | (simp only [List.length_map, List.length_cons, List.length_nil, List.length_append]; omega) | (simp only [List.length_map, List.drop_zero, List.length_cons, List.length_nil, Nat.zero_add, Nat.add_zero] at *; omega)) : p ∧ K := ⟨h, k⟩
theorem dr_XDLLimits {b : Bool} {p K : Prop} (k : K) (h : b = true → p := by intro h; first | (cases h; done) | exact ⟨by kernel_rfl, by kernel_rfl⟩) : (b = true → p) ∧ K := ⟨h, k⟩
theorem cl_XDLLimits {C : Cx} {n : Nat} {o : Oper} {τ : Nat → AV} {η : Nat → Ent} {f : FuncId} {os : Array Operand} {ats : Array TypeId} {r : AV} {args : List AV} {K : Foot → Prop} (ho : o.op = .call ⟨.value (.func f), os, ats⟩) (hc : ACall C f args r) (k : K ⟨r, [], []⟩)
    (hd : InB n o.dst := by exact Nat.le_of_ble_eq_true rfl) (hargs : os.toList.map (evA τ) = args := by first | rfl | (simp [cGAtom, c_u8, cF]; done) | (repeat (first | exact rfl | refine cons_eq ?_ ?_ | exact sl_dt rfl))) (hfr : frs args := by repeat (first | exact trivial | exact fr1_eA _ | exact fr0_eA _ | exact fr1_fr (by assumption) | exact FrV.h | exact fr0_fr FrV.h | exact fr1_fr FrV.h | refine And.intro ?_ ?_)) (hr : fr1 r := by repeat (first | exact trivial | exact fr1_eA _ | exact fr0_eA _ | exact fr1_fr (by assumption) | exact FrV.h | exact fr0_fr FrV.h | exact fr1_fr FrV.h | refine And.intro ?_ ?_)) : ∃ f : Foot, LF C n o τ η f ∧ K f := ⟨_, lf_call ho hd hargs hc hfr hr, k⟩
theorem clf_XDLLimits {C : Cx} {n : Nat} {o : Oper} {τ : Nat → AV} {η : Nat → Ent} {f : FuncId} {os : Array Operand} {ats : Array TypeId} {r : AV} {xs ys : List AV} {K : Foot → Prop} (us : List (Nat × Ent)) (ho : o.op = .call ⟨.value (.func f), os, ats⟩) (hargs : os.toList.map (evA τ) = xs) (hc : ACall C f ys r) (k : K ⟨r, us, []⟩)
    (hus : allUs η us := by repeat (first | exact trivial | refine And.intro rfl ?_)) (hul : ltUs n us := by repeat (first | exact trivial | refine And.intro (Nat.le_of_ble_eq_true rfl) ?_)) (hd : InB n o.dst := by exact Nat.le_of_ble_eq_true rfl) (hb : BWL η (dropB η (us.map (·.1))) xs ys := by repeat (first | exact BWL.nil | exact bwll_nil | exact bw_c | exact BW.sl | exact BW.nil | exact bwll_same rfl FrI.h | refine BWL.cons ?_ ?_ | refine bwll_cons ?_ ?_ | (refine bw_own3 rfl rfl rfl FrI.h ?_ ?_ ?_) | exact BW.mpf rfl rfl rfl FrI.h rfl | refine CloK.bw ?_ | exact BW.fr FrV.h | exact BW.fr (by assumption) | refine bw_agg ?_ | refine bw_clo ?_ | refine bw_ptr rfl rfl rfl ?_ | (refine bw_own rfl rfl rfl ?_ FrI.h ?_ ?_) | assumption | omega | rfl | (rw [List.length_map, ← List.length_append]; assumption) | (refine bwll_same ?_ FrI.h; (simp [cGAtom, c_u8, cF] <;> fail)) | (rw [List.map_set]; refine bwll_set (by first | rfl | omega | simp) ?_ ?_) | refine bwll_set (by first | rfl | omega | simp) ?_ ?_ | (rw [List.map_replicate]; refine bwll_rep ?_) | refine bwll_rep ?_ | (rw [List.map_append]; refine bwll_append ?_ ?_) | refine bwll_append ?_ ?_ | (simp [cGAtom, c_u8, cF, take_len_map] <;> fail) | (rw [List.drop_zero, List.take_of_length_le] <;> first | rfl | (simp [cGAtom, c_u8, cF] <;> fail)) | (simp; omega) | (simp only [List.length_map, List.length_append, List.drop_zero, List.length_cons, List.length_nil, Nat.zero_add, Nat.add_zero] at *; omega))) (hr : fr1 r := by repeat (first | exact trivial | exact fr1_eA _ | exact fr0_eA _ | exact fr1_fr (by assumption) | exact FrV.h | exact fr0_fr FrV.h | exact fr1_fr FrV.h | refine And.intro ?_ ?_)) : ∃ f : Foot, LF C n o τ η f ∧ K f := ⟨_, lf_callF us (allUs_at hus) (ltUs_at hul) ho hd hargs hb hc hr, k⟩
def M_l16_DatalogLimits_L1 (z9 : Int) : Nat → Int → (List GAtom) → Option (List GAtom)
  | 0, _, _ => none
  | k26 + 1, v24, v25 =>
    sel (decide (v24 < z9))
     (ob1 (M_l16_atom (⟨#[112]⟩ : ByteArray) [(strOfNums [(IntKind.u8.wrap (IntKind.i64.wrap (97 + (IntKind.i64.wrap (v24.tdiv 26))))), (IntKind.u8.wrap (IntKind.i64.wrap (97 + (v24.tmod 26))))])]) (fun z27 =>
       grd (26 ≠ 0) (grd ((v25.length + 1) * 40 ≤ 140737488355328) (M_l16_DatalogLimits_L1 z9 k26 (IntKind.i64.wrap (v24 + 1)) (v25 ++ [z27])))))
     (some v25)
def M_l16_DatalogLimits (g : Nat) (a0 : Int) (a1 : Bool) : Option (Bool) :=
  ob1 (M_l16_awake g) (fun z1 =>
   sel (!z1)
    (some false)
    (sel a1
      (ob1 (M_b_Clip a0 1020 1028) (fun z2 =>
        ob1 (M_l16_atom (⟨#[112]⟩ : ByteArray) []) (fun z3 =>
         ob1 (M_l16_copies g z2) (fun z4 =>
          ob2 (M_datalog_Solve g [z3] z4) (fun z5 z6 =>
           sel (decide (z2 > 1024))
            (sel (((z5.map cGAtom).length : Int) == 0)
              (ob1 (M_b_Is z6 5) (fun z7 =>
                some z7))
              (some false))
            (erM z6
              (some (((z5.map cGAtom).length : Int) == 2))
              (fun _ => some false)))))))
      (ob1 (M_b_Clip a0 60 66) (fun z9 =>
        ob1 (M_l16_DatalogLimits_L1 z9 g 0 [] : Option (List GAtom))
         (fun v18 => ob1 (M_l16_atom (⟨#[113]⟩ : ByteArray) [(⟨#[63, 120]⟩ : ByteArray), (⟨#[63, 121]⟩ : ByteArray)]) (fun z28 =>
            ob1 (M_l16_atom (⟨#[112]⟩ : ByteArray) [(⟨#[63, 120]⟩ : ByteArray)]) (fun z29 =>
             ob1 (M_l16_atom (⟨#[112]⟩ : ByteArray) [(⟨#[63, 121]⟩ : ByteArray)]) (fun z30 =>
              grd (v18.length ≤ 140737488355328) (ob2 (M_datalog_Solve g v18 [{ Head := z28, Body := [z29, z30], Unequal := [] : GRule }]) (fun z31 z32 =>
               sel (decide ((IntKind.i64.wrap ((IntKind.i64.wrap (z9 * z9)) + z9)) > 4096))
                (sel (((z31.map cGAtom).length : Int) == 0)
                  (ob1 (M_b_Is z32 5) (fun z33 =>
                    some z33))
                  (some false))
                (erM z32
                  (some (((z31.map cGAtom).length : Int) == (IntKind.i64.wrap ((IntKind.i64.wrap (z9 * z9)) + z9))))
                  (fun _ => some false))))))))))))
set_option maxHeartbeats 16000000 in
set_option maxRecDepth 100000 in
theorem A_l16_DatalogLimits (g : Nat) (a0 : Int) (a1 : Bool) {r1 : Bool} (h : M_l16_DatalogLimits g a0 a1 = some r1) : ACall cx 9 [.c (.int .i64 a0), .c (.bool a1)] (.c (.bool r1)) := by
  refine aOf Tryd.func9 rfl (by decide) rfl (Nat.le_of_ble_eq_true rfl) ?_; intro _; unfold M_l16_DatalogLimits at h; refine aSR ?_; intro _; refine dr_XDLLimits ?_; refine aSq ?_; refine aSR ?_; intro _; obtain ⟨z1, u1, h⟩ := ob1_ok h; refine cl_XDLLimits rfl (A_l16_awake g u1) ?_; intro _; refine dr_XDLLimits ?_; refine aCd ?_; intro _; refine spl h (fun c2 h => ?_) (fun c2 h => ?_)
  · refine aSR ?_; intro _; refine dr_XDLLimits ?_; refine aRt ?_; intro _; obtain rfl := inj1 h; exact ca_XDLLimits
  · refine aSk ?_; refine aSq ?_; refine aSR ?_; intro _; refine dr_XDLLimits ?_; refine aCd ?_; intro _; refine spl h (fun c3 h => ?_) (fun c3 h => ?_)
    · refine aSR ?_; intro _; obtain ⟨z2, u4, h⟩ := ob1_ok h; refine cl_XDLLimits rfl (A_b_Clip a0 1020 1028 u4) ?_; intro _; refine dr_XDLLimits ?_; refine aSR ?_; intro _; obtain ⟨z3, u5, h⟩ := ob1_ok h; refine clf_XDLLimits [] rfl rfl (A_l16_atom (⟨#[112]⟩ : ByteArray) [] u5) ?_; intro _; obtain ⟨z4, u6, h⟩ := ob1_ok h; refine cl_XDLLimits rfl (A_l16_copies g z2 u6) ?_; intro _; obtain ⟨z5, z6, u7, h⟩ := ob2_ok h; refine clf_XDLLimits [(18, ⟨2, none⟩)] rfl rfl (A_datalog_Solve g [z3] z4 u7) ?_; intro _; refine dr_XDLLimits ?_; refine aSq ?_; refine aSR ?_; intro _; refine dr_XDLLimits ?_; refine aCd ?_; intro _; refine spl h (fun c8 h => ?_) (fun c8 h => ?_)
      · refine aSR ?_; intro _; refine spl h (fun c9 h => ?_) (fun c9 h => ?_)
        · intro _; obtain ⟨z7, u10, h⟩ := ob1_ok h; refine cl_XDLLimits rfl (A_b_Is z6 5 u10) ?_; intro _; refine dr_XDLLimits ?_; refine aRt ?_; intro _; obtain rfl := inj1 h; exact ca_XDLLimits
        · intro _; refine dr_XDLLimits ?_; refine aRt ?_; intro _; obtain rfl := inj1 h; exact ca_XDLLimits
      · refine aSk ?_; refine aSq ?_; rcases z6 with _ | e8
        · replace h := erM_nil h; refine aRg ?_; intro _; refine litT ?_; intro _; refine dr_XDLLimits ?_; refine aRt ?_; intro _; obtain rfl := inj1 h; exact ca_XDLLimits
        · replace h := erM_no h; refine aRg ?_; intro _; refine litF ?_; intro _; refine dr_XDLLimits ?_; refine aRt ?_; intro _; obtain rfl := inj1 h; exact ca_XDLLimits
    · refine aSk ?_; refine aSR ?_; intro _; obtain ⟨z9, u11, h⟩ := ob1_ok h; refine cl_XDLLimits rfl (A_b_Clip a0 60 66 u11) ?_; intro _; refine dr_XDLLimits ?_; refine aSR ?_; intro _; refine dr_XDLLimits ?_; obtain ⟨o12, h, hK13⟩ := ob1_ok h; refine awp_cut (α := List GAtom) (fun v18 => mkS 101 [(0, .c (.int .i64 z9)), (7, .own 61 0 0 v18.length)] [(61, ⟨24, 2, false, v18.map cGAtom⟩)]) (fun v => o12 = v) ?_ ?_
      · refine aSR ?_; intro _; refine dr_XDLLimits ?_; refine aBk ?_; refine awp_loop (α := Nat × Int × (List GAtom)) (fun x => mkS 101 [(0, .c (.int .i64 z9)), (7, .own 61 0 0 x.2.2.length), (8, .c (.int .i64 x.2.1))] [(61, ⟨24, 2, false, x.2.2.map cGAtom⟩)]) (fun x => M_l16_DatalogLimits_L1 z9 x.1 x.2.1 x.2.2 = some o12) (fun x => x.1) (g, 0, []) h ?_ ?_
        · exact ca_XDLLimits
        · intro x14 h; intro _; obtain ⟨k26, m15, h⟩ := succ_of (f := fun n => M_l16_DatalogLimits_L1 z9 n x14.2.1 x14.2.2) rfl h; replace h : M_l16_DatalogLimits_L1 z9 (k26 + 1) x14.2.1 x14.2.2 = some o12 := h; rw [M_l16_DatalogLimits_L1] at h; refine aSq ?_; refine aSR ?_; intro _; refine dr_XDLLimits ?_; refine aCd ?_; intro _; refine spl h (fun c16 h => ?_) (fun c16 h => ?_)
          · refine aSk ?_; refine aSq ?_; refine aBk ?_; refine aRg ?_; intro _; refine ⟨_, lf_str (xs := [(IntKind.u8.wrap (IntKind.i64.wrap (97 + (IntKind.i64.wrap (x14.2.1.tdiv 26))))), (IntKind.u8.wrap (IntKind.i64.wrap (97 + (x14.2.1.tmod 26))))]) rfl (Nat.le_of_ble_eq_true rfl) rfl rfl rfl rfl (by first | rfl | simp) (tyTab_ok 64 _ rfl) rfl (tyTab_ok 9 _ rfl) rfl Tryd.underlying5, ?_⟩; intro _; obtain ⟨z27, u17, h⟩ := ob1_ok h; refine clf_XDLLimits [(58, ⟨2, none⟩)] rfl rfl (A_l16_atom (⟨#[112]⟩ : ByteArray) [(strOfNums [(IntKind.u8.wrap (IntKind.i64.wrap (97 + (IntKind.i64.wrap (x14.2.1.tdiv 26))))), (IntKind.u8.wrap (IntKind.i64.wrap (97 + (x14.2.1.tmod 26))))])] u17) ?_; intro _; obtain ⟨q18, h⟩ := grd_ok h; obtain ⟨q19, h⟩ := grd_ok h; refine ⟨rfl, ?_⟩; refine pr_XDLLimits ?_; refine ⟨rfl, ?_⟩; refine pr_XDLLimits ?_; refine pl_XDLLimits ?_; refine pl_XDLLimits ?_; refine And.intro (by first | with_reducible assumption | (show (x14.2.2.length + 1) * 40 ≤ 140737488355328; with_reducible assumption) | omega | (simp; omega)) ?_; refine pe_XDLLimits ?_; refine dr_XDLLimits ?_; refine aRg ?_; intro _; refine dr_XDLLimits ?_; refine ⟨(k26, (IntKind.i64.wrap (x14.2.1 + 1)), (x14.2.2 ++ [z27])), h, ltS m15, ?_⟩; exact ca_XDLLimits
          · refine aEx ?_; refine ⟨x14.2.2, (Option.some.inj h).symm, ?_⟩; exact ca_XDLLimits
      · rintro v18 ho; have ho := ho.symm; subst ho; intro _; replace h := hK13; refine aSR ?_; intro _; obtain ⟨z28, u20, h⟩ := ob1_ok h; refine clf_XDLLimits [(64, ⟨2, none⟩)] rfl rfl (A_l16_atom (⟨#[113]⟩ : ByteArray) [(⟨#[63, 120]⟩ : ByteArray), (⟨#[63, 121]⟩ : ByteArray)] u20) ?_; intro _; obtain ⟨z29, u21, h⟩ := ob1_ok h; refine clf_XDLLimits [(66, ⟨2, none⟩)] rfl rfl (A_l16_atom (⟨#[112]⟩ : ByteArray) [(⟨#[63, 120]⟩ : ByteArray)] u21) ?_; intro _; obtain ⟨z30, u22, h⟩ := ob1_ok h; refine clf_XDLLimits [(68, ⟨2, none⟩)] rfl rfl (A_l16_atom (⟨#[112]⟩ : ByteArray) [(⟨#[63, 121]⟩ : ByteArray)] u22) ?_; intro _; obtain ⟨q23, h⟩ := grd_ok h; obtain ⟨z31, z32, u24, h⟩ := ob2_ok h; refine clf_XDLLimits [(61, ⟨1, none⟩), (70, ⟨2, none⟩), (72, ⟨2, none⟩)] rfl rfl (A_datalog_Solve g v18 [{ Head := z28, Body := [z29, z30], Unequal := [] : GRule }] u24) ?_; intro _; refine dr_XDLLimits ?_; refine aSq ?_; refine aSR ?_; intro _; refine dr_XDLLimits ?_; refine aCd ?_; intro _; refine spl h (fun c25 h => ?_) (fun c25 h => ?_)
        · refine aSR ?_; intro _; refine spl h (fun c26 h => ?_) (fun c26 h => ?_)
          · intro _; obtain ⟨z33, u27, h⟩ := ob1_ok h; refine cl_XDLLimits rfl (A_b_Is z32 5 u27) ?_; intro _; refine dr_XDLLimits ?_; refine aRt ?_; intro _; obtain rfl := inj1 h; exact ca_XDLLimits
          · intro _; refine dr_XDLLimits ?_; refine aRt ?_; intro _; obtain rfl := inj1 h; exact ca_XDLLimits
        · refine aSk ?_; refine aSq ?_; rcases z32 with _ | e34
          · replace h := erM_nil h; refine aRg ?_; intro _; refine litT ?_; intro _; refine dr_XDLLimits ?_; refine aRt ?_; intro _; obtain rfl := inj1 h; exact ca_XDLLimits
          · replace h := erM_no h; refine aRg ?_; intro _; refine litF ?_; intro _; refine dr_XDLLimits ?_; refine aRt ?_; intro _; obtain rfl := inj1 h; exact ca_XDLLimits
end Go.Proofs.YtflgpccacloadaaDoor.Am
/- Plain law: DatalogLimits. -/
namespace Go.Proofs.YtflgpccacloadaaDoor.Am
open Go.RowKit
def liP : GAtom := ⟨⟨#[112]⟩, []⟩
def liQ : GAtom := ⟨⟨#[113]⟩, []⟩
def liR : GRule := { Head := liQ, Body := [liP], Unequal := [] }
theorem copies_loop (n : Nat) (hn : n ≤ 2000) : ∀ (k i : Nat) (out : List GRule), n + 1 ≤ i + k → i ≤ n → out.length = i → M_l16_copies_L1 (n : Int) k (i : Int) out = some (out ++ List.replicate (n - i) liR) := by
  intro k
  induction k with
  | zero => intro i out h1 h2; omega
  | succ k ih =>
    intro i out h1 h2 h3
    rw [M_l16_copies_L1]
    by_cases h : i < n
    · rw [decide_eq_true (show (i : Int) < (n : Int) by omega)]
      show grd ((out.length + 1) * 88 ≤ 140737488355328) (M_l16_copies_L1 (n : Int) k (IntKind.i64.wrap ((i : Int) + 1)) (out ++ [liR])) = _
      refine grd_mk (by omega) ?_
      rw [wrap_eq (by omega) (by omega)]
      have := ih (i + 1) (out ++ [liR]) (by omega) (by omega) (by simp; omega)
      rw [show ((i + 1 : Nat) : Int) = (i : Int) + 1 from rfl] at this
      rw [this, show n - i = (n - (i + 1)) + 1 by omega, List.replicate_succ, List.append_assoc]
      rfl
    · rw [decide_eq_false (show ¬ (i : Int) < (n : Int) by omega)]
      refine grd_mk (by omega) ?_
      rw [show n - i = 0 by omega]
      simp
theorem liH (S : GSet) (h : S = [liP] ∨ S = [liP, liQ]) : rheads S liR = [liQ] := by
  rw [rheads_eq]
  rcases h with rfl | rfl
  · decide +kernel
  · decide +kernel
theorem liCk : ckR liR = .nil := by
  unfold ckR vars addV badT
  rw [isV_fun]
  decide +kernel
theorem liF : [liP].any badF = false := by
  unfold badF
  rw [isV_fun]
  decide +kernel
theorem liKey : KeyOk liQ := keyOk_of (by decide) (by decide) (fun x hx => by cases hx)
theorem liSet : setA [liP] = [liP] := strA_unique (setA_spec _).1 (List.pairwise_singleton _ _) (setA_spec _).2.1
theorem liStr : StrA [liP, liQ] := by
  unfold StrA
  have h1 : atomC liP liQ < 0 := by decide +kernel
  simp [h1]
theorem liAll (S : GSet) (h : S = [liP] ∨ S = [liP, liQ]) (n : Nat) : allH S (List.replicate n liR) = List.replicate n liQ := by
  induction n with
  | zero => rfl
  | succ n ih => rw [List.replicate_succ, List.replicate_succ, allH, List.flatMap_cons, liH S h, ← ih]; rfl
theorem liNext (S : GSet) (h : S = [liP] ∨ S = [liP, liQ]) (n : Nat) (hn : 0 < n) : nextS (List.replicate n liR) S = [liP, liQ] := by
  refine strA_unique (setA_spec _).1 liStr (fun z => ?_)
  rw [mem_next, liAll S h, List.mem_replicate]
  rcases h with rfl | rfl
  · simp
    exact ⟨fun q => q.elim .inl (fun q => .inr q.2), fun q => q.elim .inl (fun q => .inr ⟨by omega, q⟩)⟩
  · simp
    intro _ q
    exact .inr q
theorem liSolve (g n : Nat) (hg : 3000000 < g) (hn : 0 < n) (hn2 : n ≤ 2000) : M_datalog_Solve g [liP] (List.replicate n liR) = some (if 1024 < n then ([], .no 5) else ([liP, liQ], .nil)) := by
  have hr : ∀ r ∈ List.replicate n liR, r = liR := fun r hr => (List.mem_replicate.1 hr).2
  have h1 := solve_eq g [liP] (List.replicate n liR) (fun r h => by rw [hr r h]; exact ⟨by decide, by decide, by decide⟩) ⟨by decide, by decide⟩ (by simp; omega) (fun r h => by rw [hr r h]; show 1 < g; omega) hg (by show 1 < g; omega)
    (fun S => S = [liP] ∨ S = [liP, liQ]) (fun _ _ _ => .inl liSet)
    (fun S hS => ⟨fun r h => by
      rw [hr r h]
      exact ⟨by decide, by decide, by decide, fun a ha => by rw [liH S hS] at ha; rw [List.mem_singleton.1 ha]; exact liKey⟩, fun a ha => by
      have : a = liP ∨ a = liQ := by
        rcases hS with rfl | rfl
        · exact .inl (List.mem_singleton.1 ha)
        · simpa using ha
      rcases this with rfl | rfl <;> decide, by rw [liAll S hS]; simp; omega⟩)
    (fun S hS _ => .inr (liNext S hS n hn))
  rw [h1]
  unfold solveS
  have h2 : firstE (List.replicate n liR) = .nil := firstE_of (fun r h => by rw [hr r h]; exact liCk)
  rw [h2]
  simp only []
  rw [liF, if_neg (by decide), List.length_replicate]
  by_cases e : 1024 < n
  · rw [if_pos e, if_pos e]
  · rw [if_neg e, if_neg e, liSet, if_neg (by decide)]
    obtain ⟨k, rfl⟩ : ∃ k, g = k + 2 := ⟨g - 2, by omega⟩
    rw [runS, liNext _ (.inl rfl) n hn, if_neg (by decide), if_neg (by decide), runS, liNext _ (.inr rfl) n hn, if_neg (by decide), if_pos rfl]
/-- the second half -/
def liS (i : Nat) : ByteArray := strOfNums [(IntKind.u8.wrap (IntKind.i64.wrap (97 + (IntKind.i64.wrap ((i : Int).tdiv 26))))), (IntKind.u8.wrap (IntKind.i64.wrap (97 + ((i : Int).tmod 26))))]
def liC (n : Nat) : List ByteArray := (List.range n).map liS
def liA (x : ByteArray) : GAtom := ⟨⟨#[112]⟩, [x]⟩
def liB (x y : ByteArray) : GAtom := ⟨⟨#[113]⟩, [x, y]⟩
def vx : ByteArray := ⟨#[63, 120]⟩
def vy : ByteArray := ⟨#[63, 121]⟩
def liR2 : GRule := { Head := liB vx vy, Body := [liA vx, liA vy], Unequal := [] }
theorem facts_loop (n : Nat) (hn : n ≤ 100) : ∀ (k i : Nat) (out : List GAtom), n + 1 ≤ i + k → i ≤ n → out = ((List.range i).map liS).map liA → M_l16_DatalogLimits_L1 (n : Int) k (i : Int) out = some ((liC n).map liA) := by
  intro k
  induction k with
  | zero => intro i out h1 h2; omega
  | succ k ih =>
    intro i out h1 h2 h3
    rw [M_l16_DatalogLimits_L1]
    have hl : out.length = i := by rw [h3]; simp
    by_cases h : i < n
    · rw [decide_eq_true (show (i : Int) < (n : Int) by omega)]
      show grd (26 ≠ 0) (grd ((out.length + 1) * 40 ≤ 140737488355328) (M_l16_DatalogLimits_L1 (n : Int) k (IntKind.i64.wrap ((i : Int) + 1)) (out ++ [liA (liS i)]))) = _
      refine grd_mk (by decide) (grd_mk (by omega) ?_)
      rw [wrap_eq (by omega) (by omega)]
      refine ih (i + 1) (out ++ [liA (liS i)]) (by omega) (by omega) ?_
      rw [List.range_succ, List.map_append, List.map_append, h3]
      rfl
    · rw [decide_eq_false (show ¬ (i : Int) < (n : Int) by omega)]
      show some out = _
      rw [h3, show i = n by omega]
      rfl
theorem liC_nodup {n : Nat} (hn : n ≤ 66) : (liC n).Nodup := by
  have h : (liC 66).Nodup := by
    unfold liC
    decide +kernel
  have e : liC n = (liC 66).take n := by
    unfold liC
    rw [← List.map_take, List.take_range, Nat.min_eq_left hn]
  rw [e]
  exact h.sublist (List.take_sublist _ _)
theorem liC_const {n : Nat} (hn : n ≤ 66) : ∀ x ∈ liC n, isV x = false ∧ x.size ≤ 2 := by
  intro x hx
  obtain ⟨i, hi, rfl⟩ := List.mem_map.1 hx
  have hi := List.mem_range.1 hi
  refine ⟨?_, Nat.le_refl _⟩
  rw [isV_eq]
  have h : ∀ i, i < 66 → isV' (liS i) = false := by decide +kernel
  exact h i (by omega)
theorem liCk2 : ckR liR2 = .nil := by
  unfold ckR vars addV badT
  rw [isV_fun]
  decide +kernel
theorem vx_V : isV vx = true := by rw [isV_eq]; decide +kernel
theorem vy_V : isV vy = true := by rw [isV_eq]; decide +kernel
theorem vars2 : vars liR2.Body = [vx, vy] := by
  unfold vars addV
  rw [isV_fun]
  decide +kernel
def liPr (n : Nat) : List GAtom := (liC n).flatMap (fun x => (liC n).map (liB x))
theorem liPr_mem {n : Nat} {z : GAtom} : z ∈ liPr n ↔ ∃ x ∈ liC n, ∃ y ∈ liC n, z = liB x y := by
  unfold liPr
  simp only [List.mem_flatMap, List.mem_map]
  exact ⟨fun ⟨x, hx, y, hy, e⟩ => ⟨x, hx, y, hy, e.symm⟩, fun ⟨x, hx, y, hy, e⟩ => ⟨x, hx, y, hy, e.symm⟩⟩
/-- the sets of the run -/
def LiSet (n : Nat) (S : GSet) : Prop := StrA S ∧ (∀ x ∈ liC n, liA x ∈ S) ∧ ∀ z ∈ S, z ∈ (liC n).map liA ∨ z ∈ liPr n
theorem li_heads {n : Nat} {S : GSet} (hS : LiSet n S) {z : GAtom} : z ∈ allH S [liR2] ↔ z ∈ liPr n := by
  rw [allH_mem (fun r hr => by rw [List.mem_singleton.1 hr]; exact known_of liCk2), liPr_mem]
  have hi : ∀ (σ : Asg) (v : ByteArray), isV v = true → inst σ (liA v) = liA (σ v) := fun σ v hv => by
    unfold inst liA
    simp [trm, hv]
  have hh : ∀ σ : Asg, inst σ liR2.Head = liB (σ vx) (σ vy) := fun σ => by
    unfold inst liR2 liB
    simp [trm, vx_V, vy_V]
  have hm : ∀ x, liA x ∈ S → x ∈ liC n := fun x hx => by
    rcases hS.2.2 _ hx with q | q
    · obtain ⟨y, hy, e⟩ := List.mem_map.1 q
      have : y = x := by simpa [liA] using e
      rw [← this]; exact hy
    · obtain ⟨a, _, b, _, e⟩ := liPr_mem.1 q
      have := congrArg (fun a : GAtom => a.Args.length) e
      simp [liA, liB] at this
  constructor
  · rintro ⟨r, hr, σ, ⟨h1, _⟩, rfl⟩
    rw [List.mem_singleton.1 hr] at h1 ⊢
    have hx := h1 (liA vx) (List.mem_cons_self ..)
    have hy := h1 (liA vy) (List.mem_cons_of_mem _ (List.mem_cons_self ..))
    rw [hi σ vx vx_V] at hx
    rw [hi σ vy vy_V] at hy
    exact ⟨σ vx, hm _ hx, σ vy, hm _ hy, hh σ⟩
  · rintro ⟨x, hx, y, hy, rfl⟩
    have hne : ¬ vy = vx := by decide +kernel
    refine ⟨liR2, List.mem_singleton.2 rfl, (fun s => if s = vx then x else y), ⟨fun a ha => ?_, fun p hp => by cases hp⟩, ?_⟩
    · rcases List.mem_cons.1 ha with e | e
      · rw [e, hi _ vx vx_V, if_pos rfl]; exact hS.2.1 x hx
      · rw [List.mem_singleton.1 e, hi _ vy vy_V, if_neg hne]; exact hS.2.1 y hy
    · rw [hh, if_pos rfl, if_neg hne]
theorem li_next {n : Nat} {S : GSet} (hS : LiSet n S) : nextS [liR2] S = setA ((liC n).map liA ++ liPr n) := by
  refine strA_unique (setA_spec _).1 (setA_spec _).1 (fun z => ?_)
  rw [mem_next, li_heads hS, (setA_spec _).2.1, List.mem_append]
  constructor
  · rintro (h | h)
    · exact hS.2.2 z h
    · exact .inr h
  · rintro (h | h)
    · obtain ⟨x, hx, rfl⟩ := List.mem_map.1 h
      exact .inl (hS.2.1 x hx)
    · exact .inr h
theorem li_set0 (n : Nat) : LiSet n (setA ((liC n).map liA)) := ⟨(setA_spec _).1, fun x hx => ((setA_spec _).2.1 _).2 (List.mem_map.2 ⟨x, hx, rfl⟩), fun z hz => .inl (((setA_spec _).2.1 z).1 hz)⟩
theorem li_set1 (n : Nat) : LiSet n (setA ((liC n).map liA ++ liPr n)) := ⟨(setA_spec _).1, fun x hx => ((setA_spec _).2.1 _).2 (List.mem_append_left _ (List.mem_map.2 ⟨x, hx, rfl⟩)), fun z hz => List.mem_append.1 (((setA_spec _).2.1 z).1 hz)⟩
theorem setA_len {l : List GAtom} (h : l.Nodup) : (setA l).length = l.length :=
  Nat.le_antisymm (setA_spec l).2.2 (nodup_sub h (fun z hz => ((setA_spec l).2.1 z).2 hz))
theorem li_nodup {n : Nat} (hn : n ≤ 66) : ((liC n).map liA).Nodup ∧ ((liC n).map liA ++ liPr n).Nodup := by
  have hc := liC_nodup hn
  have h1 : ((liC n).map liA).Nodup := List.pairwise_map.2 (hc.imp (fun {a b} h e => h (by simpa [liA] using e)))
  refine ⟨h1, List.nodup_append.2 ⟨h1, nodup_flatMap hc (fun x _ => List.pairwise_map.2 (hc.imp (fun {a b} h e => h (by simpa [liB] using e)))) (fun x _ y _ hne z hz hz' => ?_), fun a ha b hb e => ?_⟩⟩
  · obtain ⟨a, _, rfl⟩ := List.mem_map.1 hz
    obtain ⟨b, _, e⟩ := List.mem_map.1 hz'
    have : y = x ∧ b = a := by simpa [liB] using e
    exact hne this.1.symm
  · subst e
    obtain ⟨x, _, rfl⟩ := List.mem_map.1 ha
    obtain ⟨c, _, d, _, e⟩ := liPr_mem.1 hb
    have := congrArg (fun a : GAtom => a.Args.length) e
    simp [liA, liB] at this
theorem li_len {n : Nat} : ((liC n).map liA ++ liPr n).length = n + n * n := by
  have h1 : (liC n).length = n := by unfold liC; simp
  rw [List.length_append, List.length_map, h1]
  congr 1
  unfold liPr
  rw [flat_len _ (fun _ => n) (fun x => by rw [List.length_map, h1]), List.map_const', List.sum_replicate_nat, h1]
theorem li_over {n : Nat} {S : GSet} (hS : LiSet n S) : Over (liC n) S := by
  intro a ha x hx
  rcases hS.2.2 a ha with q | q
  · obtain ⟨y, hy, rfl⟩ := List.mem_map.1 q
    rw [List.mem_singleton.1 hx]; exact hy
  · obtain ⟨c, hc, d, hd, rfl⟩ := liPr_mem.1 q
    rcases List.mem_cons.1 hx with e | e
    · rw [e]; exact hc
    · rw [List.mem_singleton.1 e]; exact hd
theorem liSolve2 (g n : Nat) (hg : 3000000 < g) (hn : 1 ≤ n) (hn2 : n ≤ 66) : M_datalog_Solve g ((liC n).map liA) [liR2] = some (if 4096 < n * n + n then ([], .no 5) else (setA ((liC n).map liA ++ liPr n), .nil)) := by
  have hr : ∀ r ∈ [liR2], r = liR2 := fun r hr => List.mem_singleton.1 hr
  have hcl : (liC n).length = n := by unfold liC; simp
  obtain ⟨d1, d2⟩ := li_nodup hn2
  have hnn : n * n ≤ 66 * 66 := Nat.mul_le_mul hn2 hn2
  have hpos : n ≤ n * n := Nat.le_mul_of_pos_left _ (by omega)
  have h1 := solve_eq g ((liC n).map liA) [liR2] (fun r h => by rw [hr r h]; exact ⟨by decide, by decide, by decide⟩) ⟨fun a ha => by obtain ⟨x, _, rfl⟩ := List.mem_map.1 ha; exact (by decide : 1 * 16 ≤ 140737488355328), by rw [List.length_map, hcl]; omega⟩ (by decide) (fun r h => by rw [hr r h]; show 2 < g; omega) hg (by rw [List.length_map, hcl]; omega)
    (LiSet n) (fun _ _ _ => li_set0 n)
    (fun S hS => ⟨fun r h => by
      rw [hr r h]
      refine ⟨by decide, by decide, by decide, fun a ha => ?_⟩
      have ha2 : a ∈ allH S [liR2] := List.mem_flatMap.2 ⟨liR2, List.mem_singleton.2 rfl, ha⟩
      obtain ⟨x, hx, y, hy, rfl⟩ := liPr_mem.1 ((li_heads hS).1 ha2)
      have hx2 := (liC_const hn2 x hx).2
      have hy2 := (liC_const hn2 y hy).2
      refine keyOk_of (show (⟨#[113]⟩ : ByteArray).size ≤ 100 by decide) (show 2 ≤ 8 by decide) (fun z hz => ?_)
      rcases List.mem_cons.1 hz with e | e
      · rw [e]; omega
      · rw [List.mem_singleton.1 e]; omega, fun a ha => by
      rcases hS.2.2 a ha with q | q
      · obtain ⟨x, _, rfl⟩ := List.mem_map.1 q
        exact (by decide : 1 * 16 ≤ 140737488355328)
      · obtain ⟨x, _, y, _, rfl⟩ := liPr_mem.1 q
        exact (by decide : 2 * 16 ≤ 140737488355328), by
      have q := rsols_len (li_over hS) (strA_nodup hS.1) liR2
      rw [vars2, hcl] at q
      have q2 : (rheads S liR2).length = (rsols S liR2).length := List.length_map _
      have q3 : n ^ [vx, vy].length = n * n := by show n ^ 2 = _; rw [Nat.pow_two]
      unfold allH
      rw [List.flatMap_cons, List.flatMap_nil, List.append_nil]
      omega⟩)
    (fun S hS _ => by rw [li_next hS]; exact li_set1 n)
  rw [h1]
  unfold solveS
  have h2 : firstE [liR2] = .nil := firstE_of (fun r h => by rw [hr r h]; exact liCk2)
  have h3 : ((liC n).map liA).any badF = false := by
    refine List.any_eq_false.2 (fun a ha => ?_)
    obtain ⟨x, hx, rfl⟩ := List.mem_map.1 ha
    have := (liC_const hn2 x hx).1
    unfold badF liA
    simp [this]
  rw [h2]
  simp only []
  have hl0 : (setA ((liC n).map liA)).length = n := by rw [setA_len d1, List.length_map, hcl]
  have hl1 : (setA ((liC n).map liA ++ liPr n)).length = n + n * n := by rw [setA_len d2, li_len]
  rw [h3, if_neg (by decide), if_neg (by decide), hl0, if_neg (by omega)]
  obtain ⟨k, rfl⟩ : ∃ k, g = k + 2 := ⟨g - 2, by omega⟩
  rw [runS, li_next (li_set0 n), hl1, hl0]
  by_cases e : 4096 < n * n + n
  · rw [if_pos e, if_pos (by omega)]
  · rw [if_neg e, if_neg (by omega), if_neg (by omega), runS, li_next (li_set1 n), hl1, if_neg (by omega), if_pos rfl]
theorem limits_true (n : Int) (b : Bool) : M_l16_DatalogLimits GG n b = some true := by
  obtain ⟨g, hgg⟩ : ∃ g, g = GG := ⟨GG, rfl⟩
  have hg1 : 1000000000000 < g := by rw [hgg]; decide
  rw [← hgg]
  clear hgg
  unfold M_l16_DatalogLimits
  rw [awake16 g (by omega), ob1_some]
  cases b with
  | true =>
    rw [show ∀ x y : Option Bool, sel (!true) x y = y from fun _ _ => rfl, show ∀ x y : Option Bool, sel true x y = x from fun _ _ => rfl]
    obtain ⟨m, hm⟩ : ∃ m : Nat, max 1020 (min n 1028) = (m : Int) := ⟨(max 1020 (min n 1028)).toNat, by omega⟩
    rw [show M_b_Clip n 1020 1028 = some (m : Int) by rw [← hm]; rfl, ob1_some]
    show ob1 (M_l16_copies g (m : Int)) _ = _
    have h1 := copies_loop m (by omega) g 0 [] (by omega) (Nat.zero_le _) rfl
    rw [List.nil_append, Nat.sub_zero, show ((0 : Nat) : Int) = 0 from rfl] at h1
    rw [show M_l16_copies g (m : Int) = some (List.replicate m liR) from h1, ob1_some]
    show ob2 (M_datalog_Solve g [liP] (List.replicate m liR)) _ = _
    rw [liSolve g m (by omega) (by omega) (by omega), ob2_some]
    by_cases e : 1024 < m
    · rw [if_pos e, decide_eq_true (show (m : Int) > 1024 by omega)]
      rfl
    · rw [if_neg e, decide_eq_false (show ¬ (m : Int) > 1024 by omega)]
      rfl
  | false =>
    rw [show ∀ x y : Option Bool, sel (!true) x y = y from fun _ _ => rfl, show ∀ x y : Option Bool, sel false x y = y from fun _ _ => rfl]
    obtain ⟨m, hm⟩ : ∃ m : Nat, max 60 (min n 66) = (m : Int) := ⟨(max 60 (min n 66)).toNat, by omega⟩
    rw [show M_b_Clip n 60 66 = some (m : Int) by rw [← hm]; rfl, ob1_some]
    have h1 := facts_loop m (by omega) g 0 [] (by omega) (Nat.zero_le _) rfl
    rw [show ((0 : Nat) : Int) = 0 from rfl] at h1
    rw [h1, ob1_some]
    have hcl : ((liC m).map liA).length = m := by unfold liC; simp
    show grd _ (ob2 (M_datalog_Solve g ((liC m).map liA) [liR2]) _) = _
    refine grd_mk (by omega) ?_
    have hmm : m * m ≤ 66 * 66 := Nat.mul_le_mul (by omega) (by omega)
    rw [liSolve2 g m (by omega) (by omega) (by omega), ob2_some, ← Int.natCast_mul, wrap_eq (show -9223372036854775808 ≤ ((m * m : Nat) : Int) by omega) (by omega), ← Int.natCast_add, wrap_eq (show -9223372036854775808 ≤ ((m * m + m : Nat) : Int) by omega) (by omega)]
    by_cases e : 4096 < m * m + m
    · rw [if_pos e, decide_eq_true (show ((m * m + m : Nat) : Int) > 4096 by omega)]
      rfl
    · rw [if_neg e, decide_eq_false (show ¬ ((m * m + m : Nat) : Int) > 4096 by omega)]
      show some (_ == _) = some true
      rw [List.length_map, setA_len (li_nodup (by omega)).2, li_len, beq_int]
      exact congrArg some (decide_eq_true (by omega))
end Go.Proofs.YtflgpccacloadaaDoor.Am
/- What the listed package-level variables hold, as cells, for the witness. -/
namespace Go.Proofs.YtflgpccacloadaaDoor
open Go.ChangeShapes Go.WideShapes Go.ChangeAt Go.RowKit
theorem own : ownKnob Tryd.prog.godebug = none := by kernel_rfl
theorem laidOut : laidOutB Tryd.prog = true := by kernel_rfl
def tab32 : Array Value := #[.int .u8 0, .int .u8 1, .int .u8 28, .int .u8 2, .int .u8 29, .int .u8 14, .int .u8 24, .int .u8 3, .int .u8 30, .int .u8 22, .int .u8 20, .int .u8 15, .int .u8 25, .int .u8 17, .int .u8 4, .int .u8 8, .int .u8 31, .int .u8 27, .int .u8 13, .int .u8 23, .int .u8 21, .int .u8 19, .int .u8 16, .int .u8 7, .int .u8 26, .int .u8 12, .int .u8 18, .int .u8 6, .int .u8 11, .int .u8 5, .int .u8 10, .int .u8 9]
def tab64 : Array Value := #[.int .u8 0, .int .u8 1, .int .u8 56, .int .u8 2, .int .u8 57, .int .u8 49, .int .u8 28, .int .u8 3, .int .u8 61, .int .u8 58, .int .u8 42, .int .u8 50, .int .u8 38, .int .u8 29, .int .u8 17, .int .u8 4, .int .u8 62, .int .u8 47, .int .u8 59, .int .u8 36, .int .u8 45, .int .u8 43, .int .u8 51, .int .u8 22, .int .u8 53, .int .u8 39, .int .u8 33, .int .u8 30, .int .u8 24, .int .u8 18, .int .u8 12, .int .u8 5, .int .u8 63, .int .u8 55, .int .u8 48, .int .u8 27, .int .u8 60, .int .u8 41, .int .u8 37, .int .u8 16, .int .u8 46, .int .u8 35, .int .u8 44, .int .u8 21, .int .u8 52, .int .u8 32, .int .u8 23, .int .u8 11, .int .u8 54, .int .u8 26, .int .u8 40, .int .u8 15, .int .u8 34, .int .u8 20, .int .u8 31, .int .u8 10, .int .u8 25, .int .u8 14, .int .u8 19, .int .u8 9, .int .u8 13, .int .u8 8, .int .u8 7, .int .u8 6]
def tabPow : Array Value := #[.int .u64 1, .int .u64 10, .int .u64 100, .int .u64 1000, .int .u64 10000, .int .u64 100000, .int .u64 1000000, .int .u64 10000000, .int .u64 100000000, .int .u64 1000000000, .int .u64 10000000000, .int .u64 100000000000, .int .u64 1000000000000, .int .u64 10000000000000, .int .u64 100000000000000, .int .u64 1000000000000000, .int .u64 10000000000000000, .int .u64 100000000000000000, .int .u64 1000000000000000000, .int .u64 10000000000000000000]

def putCells (cs : Array Value) : Obj → Obj
  | .cells _ t frozen => .cells cs t frozen
  | o => o
/-- A world for the witnesses: the settled one, the tables holding what their initialisers lay. -/
noncomputable def laidWorld (os : Os) : World :=
  { World.holding Tryd.prog os ⟨#[], #[], []⟩ with heap := (((World.holding Tryd.prog os ⟨#[], #[], []⟩).heap.modify 0 (putCells tabPow)).modify 1 (putCells tab32)).modify 2 (putCells tab64) }
end Go.Proofs.YtflgpccacloadaaDoor
/- stratagemlaw16.DatalogLimits returns true for every input. No condition beyond the card's own. -/
namespace Go.Proofs.YtflgpccacloadaaDoor.rowLimits
open Go.ChangeShapes Go.WideShapes Go.ChangeAt Go.RowKit Am

theorem table {W : World} (h : laidMetH Tryd.prog Rows.datalogLimitsRow.laid W) : TabOk W := by
  obtain ⟨ps, ⟨_, _, _, _, _, _, _, _, _, _, ⟨_, _, _, _, _, _, _, _, _, _, hr, _⟩, _⟩, _⟩ := h
  obtain ⟨g', t', cs, fuel, p, q, hg', ht', hvar, hd, _, _⟩ := hr
  obtain rfl := Option.some.inj (gPow.symm.trans hg')
  obtain rfl := Option.some.inj ((show (Tryd.prog.globals[0]?).map (·.type) = some 152 by kernel_rfl).symm.trans ht')
  unfold TabOk Lib.TabIs
  rw [hvar, ← Lib.cells_of_tab (zs := Lib.pow10Tab) Tryd.underlying152 Tryd.underlying134 (by kernel_rfl) (by kernel_rfl) hd]
set_option maxRecDepth 100000 in
theorem contract (H : Type) (enc : TypeId × Value → H) (W : World) (base : Nat) (args : Array Value) (ds gs : List (DataW H)) (before : List MemPlace)
    (hval : ∀ (j : Nat) t v, Tryd.f9.params[j]? = some t → args[j]? = some v → Value.okWide Tryd.prog W .any base t v)
    (hW : DataW.Whole enc Tryd.prog Tryd.f9.params.toList Rows.datalogLimitsSpec.vars false W args.toList ds gs before) (hL : laidMetH Tryd.prog Rows.datalogLimitsRow.laid W)
    (hsz : (DataW.weightsEach Tryd.prog (Tryd.f9.params.toList ++ (OpenSpec.ofChange Rows.datalogLimitsSpec).bare.plain.varTypes Tryd.prog) (ds ++ gs)).all (· ≤ reachBytes) = true) :
    Calls Tryd.prog 9 args W fun e W' => ∃ v, e = .returned v ∧ Rows.datalogLimitsSpec.post enc Tryd.prog Tryd.f9 false true false false W args v W' := by
  have hW' := hW
  obtain ⟨p, q, hA0, hV, rfl, hfz, hnd⟩ := hW
  have hA : DataW.TrodAll enc Tryd.prog W 0 (fun _ => true) true Tryd.f9.params.toList args.toList ds p := hA0
  rw [Tryd.params9] at hA hval
  obtain ⟨v0, vs0, d0, ds0, p0, q0, hargs, rfl, rfl, h0, r0⟩ := trodAll_cons hA
  obtain ⟨v1, vs1, d1, ds1, p1, q1, rfl, rfl, rfl, h1, r1⟩ := trodAll_cons r0
  obtain ⟨rfl, rfl, rfl⟩ := trodAll_nil r1
  obtain rfl : args = #[v0, v1] := Array.ext' hargs
  obtain ⟨rfl, rfl⟩ := trodVars_none hV
  obtain ⟨n, rfl, rfl, rfl, _⟩ := open_int Tryd.underlying3 (hval 0 3 v0 rfl rfl) h0
  obtain ⟨b, rfl⟩ := okWide_bool Tryd.underlying4 (hval 1 4 v1 rfl rfl)
  simp only [List.append_nil] at hW' hA0
  refine (law_of (A_l16_DatalogLimits GG n b (limits_true n b)) ⟨table hL, trivial⟩ rfl (fun j x v hx hv => ?_)).mono fun e W' ⟨he, hb⟩ => ?_
  · match j, hx, hv with
    | 0, hx, hv => simp at hx hv; subst hx hv; exact .c _
    | 1, hx, hv => simp at hx hv; subst hx hv; exact .c _
    | j + 2, hx, hv => simp at hx
  · subst he
    exact ⟨_, rfl, law_post laidOut rfl (by kernel_rfl) Tryd.underlying4 (by kernel_rfl) hW' hA0 rfl rfl rfl hb⟩
theorem laid_met (os : Os) : laidMet Tryd.prog Rows.datalogLimitsRow.laid ((laidWorld os).forCall (fun _ _ => 0) ⟨#[], #[.int .i64 0, .bool false], []⟩).memory :=
  laidMet_of_run' 8 (by kernel_rfl) (by kernel_rfl)
theorem reads (os : Os) {H : Type} (enc : TypeId × Value → H) : ∃ places, DataW.whole enc Tryd.prog ((laidWorld os).forCall (fun _ _ => 0) ⟨#[], #[.int .i64 0, .bool false], []⟩).memory Tryd.f9.params.toList Rows.datalogLimitsSpec.vars false (#[.int .i64 0, .bool false] : Array Value).toList 8 = some ([.lit (.int .i64 0), .lit (.bool false)], [], places) :=
  ⟨[], by kernel_rfl⟩

set_option maxRecDepth 100000 in
theorem lifted (os : Os) (started : os.Started) (H : Type) (enc : TypeId × Value → H) (F : Stop.Interp) :
    ReturnsInHanded {} Tryd.checked os 9 .any ((OpenSpec.ofChange Rows.datalogLimitsSpec).preRow enc Tryd.prog Tryd.f9 Rows.datalogLimitsRow.domain false Rows.datalogLimitsRow.laid) (((OpenSpec.ofChange Rows.datalogLimitsSpec).at F).post enc Tryd.prog Tryd.f9 false true false false) := by
  obtain ⟨places, hx⟩ := reads os enc
  refine returnsInHanded_of_row (C := Tryd.checked) (s := OpenSpec.ofChange Rows.datalogLimitsSpec) own started (by kernel_rfl) Tryd.func9
    (witness_row_at (enc := enc) (C := Tryd.checked) false (laidWorld os) #[.int .i64 0, .bool false] rfl (by kernel_rfl) (by kernel_rfl) (by kernel_rfl)
      (OpenSpec.preRow_of_cond 8 hx (by kernel_rfl) (fun k hk => by cases hk) (by kernel_rfl) (laid_met os))) ?_
  intro W base args ds gs before hval hW _ _ hsz hL _ _
  exact contract H enc W base args ds gs before hval hW hL hsz

theorem said : Rows.DatalogLimitsSaid :=
  OpenClaim.holds_of_cond 9 Tryd.f9 rfl rfl rfl rfl rfl rfl rfl ⟨rfl, rfl, rfl, rfl, rfl⟩ rfl rfl rfl rfl rfl (by kernel_rfl) Tryd.func9 (by kernel_rfl)
    (of_decide_eq_true (by kernel_rfl)) (by unfold Func.isWrapper; first | (rw [if_pos (by decide +kernel)]; kernel_rfl) | (rw [if_neg (by decide +kernel)]; exact ⟨rfl, rfl⟩))
    (fun os started H enc _ F => by rw [OpenClaim.pre_eq_preRow]; exact lifted os started H enc F)

theorem plain (f : FuncId) (fn : Func) (hf : Tryd.pinned.checked.prog.funcNamed Rows.datalogLimitsRow.func = some f) (hfn : Tryd.pinned.checked.prog.funcs[f]? = some fn) :
    true = Tryd.pinned.checked.prog.looks [] ∧ ∀ (j : Nat) t, fn.params[j]? = some t → Tryd.pinned.checked.prog.wantsStandIn t = false := by
  obtain rfl : f = 9 := Option.some.inj ((show Tryd.prog.funcNamed Rows.datalogLimitsRow.func = some 9 by kernel_rfl).symm.trans hf) |>.symm
  obtain rfl : fn = Tryd.f9 := (Option.some.inj (Tryd.func9.symm.trans hfn)).symm
  refine ⟨by kernel_rfl, fun j t ht => ?_⟩
  have hall : Tryd.f9.params.toList.all (fun t => !Tryd.prog.wantsStandIn t) = true := by kernel_rfl
  have := List.all_eq_true.1 hall t (by simpa using Array.mem_of_getElem? ht)
  have h2 : Tryd.prog.wantsStandIn t = false := by simpa using this
  exact h2

/-- THE CARD: stratagemlaw16's statement holds. -/
theorem card : Rows.DatalogLimitsCardSaid :=
  Claim7.holds_tied_plain_at .later [] _ _ _ _ said (fun _ h => by cases h) (by kernel_rfl) (fun _ h => by cases h) datalogLimits_row_tie rfl ⟨rfl, rfl⟩ (by kernel_rfl) rfl plain (by kernel_rfl)
end Go.Proofs.YtflgpccacloadaaDoor.rowLimits
