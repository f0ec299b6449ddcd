/- stratagemlaw16.DatalogModel returns true for every input. No condition beyond the card's own. -/
import Derived.Test.YtflgpccacloadaaDoorB5
import Derived.Test.YtflgpccacloadaaDoorB2
import Derived.Test.YtflgpccacloadaaDoorCards
import Derived.Test.YtflgpccacloadaaDoorTie
import Derived.Test.YtflgpccacloadaaDoorB1
import Derived.WalkKit
import Derived.ProofKit
import Derived.OpenShut
import Derived.Deep.DeepHandedRow
import Derived.Lib.LaidTab
import Derived.Lib.ItoaNum
set_option linter.unusedVariables false
set_option linter.unusedSectionVars false
set_option linter.unusedSimpArgs false
/- Plain law: the reference's Round and Solve. -/
namespace Go.Proofs.YtflgpccacloadaaDoor.Am
open Go.RowKit
theorem addA_mem (l : List GAtom) (a z : GAtom) : z ∈ addA l a ↔ z ∈ l ∨ z = a := by
  unfold addA
  split
  · rename_i e
    exact ⟨.inl, fun q => q.elim id (fun q => q ▸ e)⟩
  · rw [insA_mem]; exact Or.comm
theorem addA_len (l : List GAtom) (a : GAtom) : (addA l a).length ≤ l.length + 1 := by
  unfold addA
  split
  · omega
  · rw [insA_len]; omega
def ratom (b : Bd) (h : GAtom) : GAtom := ⟨h.Name, h.Args.map (rep b)⟩
theorem ratom_eq {b : Bd} {h : GAtom} (hV : ∀ s ∈ b.map Prod.fst, isV s = true) (hk : ∀ s ∈ h.Args, isV s = true → s ∈ b.map Prod.fst) : ratom b h = hatom b h := by
  unfold ratom hatom
  congr 1
  refine List.map_congr_left fun s hs => ?_
  obtain ⟨x, hx⟩ := tB_key (hk s hs)
  rw [tB_rep hV hx, hx]
  rfl
theorem atom_loop (h : GAtom) (vs cs : List ByteArray) (g : Nat) (hv : vs.length ≤ 4611686018427387904) (hg : vs.length < g) (hl : h.Args.length * 16 ≤ 140737488355328) : ∀ (k i : Nat) (out : List ByteArray), h.Args.length + 1 ≤ i + k → i ≤ h.Args.length → out.length = i →
    M_r16_Atom_L1 h vs cs g k (i : Int) out = some ⟨h.Name, out ++ (h.Args.drop i).map (rep (vs.zip cs))⟩ := by
  intro k
  induction k with
  | zero => intro i out h1 h2; omega
  | succ k ih =>
    intro i out h1 h2 h3
    rw [M_r16_Atom_L1]
    by_cases hlt : i < h.Args.length
    · have hy := List.getElem?_eq_getElem hlt
      rw [show decide ((i : Int) < ((h.Args.map cS).length : Int)) = true by simp; omega]
      show ix h.Args (i : Int) _ = _
      rw [ix_at hy, rep_eq g _ vs cs hv hg, ob1_some]
      refine grd_mk (by omega) ?_
      rw [wrap_eq (by omega) (by omega), dropC hy, List.map_cons]
      have := ih (i + 1) (out ++ [rep (vs.zip cs) h.Args[i]]) (by omega) (by omega) (by simp; omega)
      rw [List.append_assoc] at this
      exact this
    · rw [show decide ((i : Int) < ((h.Args.map cS).length : Int)) = false by simp; omega]
      rw [List.drop_of_length_le (by omega), List.map_nil, List.append_nil]
      exact grd_mk (by omega) rfl
theorem atom_eq (h : GAtom) (vs cs : List ByteArray) (g : Nat) (hv : vs.length ≤ 4611686018427387904) (hg : vs.length < g) (hl : h.Args.length * 16 ≤ 140737488355328) (hg2 : h.Args.length < g) : M_r16_Atom g h vs cs = some (ratom (vs.zip cs) h) := by
  unfold M_r16_Atom
  have := atom_loop h vs cs g hv hg hl g 0 [] (by omega) (Nat.zero_le _) rfl
  rw [List.drop_zero] at this
  exact this
theorem rnd1 (rules : List GRule) (g v : Nat) (r : GRule) (hr : rules[v]? = some r) (vs : List ByteArray) (bs : List Bd) (hv : vs.length ≤ 4611686018427387904) (hg : vs.length < g) (hl : r.Head.Args.length ≤ 1000) (hgg : 1000 < g) (hbs : bs.length ≤ 3500000000000)
    (hz : ∀ b ∈ bs, vs.zip (b.map Prod.snd) = b) : ∀ (k i : Nat) (out : List GAtom), bs.length + 1 ≤ i + k → i ≤ bs.length → Few g out → out.length + bs.length + 1 ≤ 3500000000000 + i → out.length + bs.length < g + i →
    M_r16_Round_L1 rules g (v : Int) vs (bs.map (·.map Prod.snd)) k out (i : Int) = some (((bs.drop i).map (fun b => ratom b r.Head)).foldl addA out) := by
  intro k
  induction k with
  | zero => intro i out h1 h2; omega
  | succ k ih =>
    intro i out h1 h2 h3 h4 h5
    rw [M_r16_Round_L1]
    by_cases h : i < bs.length
    · have hy := List.getElem?_eq_getElem h
      have hy2 : (bs.map (·.map Prod.snd))[i]? = some (bs[i].map Prod.snd) := by rw [List.getElem?_map, hy]; rfl
      rw [show decide ((i : Int) < (((bs.map (·.map Prod.snd)).map cL_cS).length : Int)) = true by simp; omega]
      show ix rules (v : Int) _ = _
      rw [ix_at hr, ix_at hy2, atom_eq r.Head vs _ g hv hg (by omega) (by omega), ob1_some, hz _ (List.getElem_mem h)]
      have q1 : (out.length + 1) * 40 ≤ 140737488355328 := by omega
      have q2 : out.length < g := by omega
      have q3 : (ratom bs[i] r.Head).Args.length ≤ 1000000000 := by
        show (r.Head.Args.map _).length ≤ _
        rw [List.length_map]
        exact Nat.le_trans hl (by decide)
      rw [add_eq g out (ratom bs[i] r.Head) q1 h3 q3 q2, ob1_some, dropC hy, List.map_cons, List.foldl_cons, wrap_eq (by omega) (by omega)]
      have hal := addA_len out (ratom bs[i] r.Head)
      refine ih (i + 1) (addA out (ratom bs[i] r.Head)) (by omega) (by omega) (fun a ha => ?_) (by omega) (by omega)
      rcases (addA_mem _ _ _).1 ha with e | e
      · exact h3 a e
      · rw [e]
        exact ⟨q3, by show (r.Head.Args.map _).length < _; rw [List.length_map]; omega⟩
    · rw [show decide ((i : Int) < (((bs.map (·.map Prod.snd)).map cL_cS).length : Int)) = false by simp; omega]
      rw [List.drop_of_length_le (by omega)]
      rfl
/-- a world that is small enough -/
structure Wd (rules : List GRule) (S : GSet) : Prop where
  str : StrA S
  len : S.length ≤ 4096
  args : ∀ a ∈ S, a.Args.length ≤ 8
  known : ∀ r ∈ rules, Known r
  rule : ∀ r ∈ rules, r.Body.length ≤ 3 ∧ r.Unequal.length ≤ 6 ∧ ∀ a ∈ r.Head :: r.Body, a.Args.length ≤ 8
  cnt : (allH S rules).length ≤ 100000
  nr : rules.length ≤ 8
theorem few8 {g : Nat} (hg : 1000 < g) {l : List GAtom} (h : ∀ a ∈ l, a.Args.length ≤ 8) : Few g l := fun a ha => by have := h a ha; omega
theorem vars_ok (body : List GAtom) : (vars body).Nodup ∧ ∀ s ∈ vars body, isV s = true := addV_ok _ [] List.nodup_nil (fun s hs => by cases hs)
theorem rheads_args {S : GSet} {r : GRule} {a : GAtom} (h : a ∈ rheads S r) : a.Args.length = r.Head.Args.length := by
  obtain ⟨b, _, rfl⟩ := List.mem_map.1 h
  simp [hatom]
theorem rnd2 {rules : List GRule} {S : GSet} (hw : Wd rules S) (g : Nat) (hg : 1000000000000 < g) (hg2 : g ≤ 4611686018427387904) : ∀ (k i : Nat) (out : List GAtom), rules.length + 1 ≤ i + k → i ≤ rules.length → (∀ a ∈ out, a.Args.length ≤ 8) → out.length + (allH S (rules.drop i)).length ≤ 1000000 →
    M_r16_Round_L2 S rules g k out (i : Int) = some ((allH S (rules.drop i)).foldl addA out) := by
  obtain ⟨w1, w2, w3, w4, w5, w7, w6⟩ := hw
  intro k
  induction k with
  | zero => intro i out h1 h2; omega
  | succ k ih =>
    intro i out h1 h2 h3 h4
    rw [M_r16_Round_L2]
    by_cases h : i < rules.length
    · have hy := List.getElem?_eq_getElem h
      generalize hrr : rules[i] = r at hy
      have hr : r ∈ rules := by rw [← hrr]; exact List.getElem_mem h
      obtain ⟨b1, b2, b3⟩ := w5 r hr
      have hfl : (r.Body.flatMap (·.Args)).length ≤ 3 * 8 := Nat.le_trans (flat_le _ 8 r.Body (fun a ha => b3 a (List.mem_cons_of_mem _ ha))) (Nat.mul_le_mul_right _ b1)
      have hvl := vars_len r.Body
      have hhl := b3 r.Head (List.mem_cons_self ..)
      obtain ⟨v1, v2⟩ := vars_ok r.Body
      rw [show decide ((i : Int) < ((rules.map cGRule).length : Int)) = true by simp; omega]
      have hb := bind_eq S r.Body r.Unequal (vars r.Body) 100000 v1 v2 (by omega) (by omega) (by omega) (by omega) (few8 (by omega) (fun a ha => b3 a (List.mem_cons_of_mem _ ha))) (few8 (by omega) w3) (by omega) (by omega) (fun m hm => by
        have h5 : S.length ^ m ≤ 4096 ^ 3 := Nat.le_trans (Nat.pow_le_pow_left w2 m) (Nat.pow_le_pow_right (by omega) (by omega))
        have h6 : (4096 : Nat) ^ 3 = 68719476736 := by decide
        omega) r.Body.length 0 (by omega) g [] (by omega) (Nat.zero_le _) (by rw [List.drop_zero]; rfl)
      rw [List.drop_zero, List.zip_nil_right, show ((0 : Nat) : Int) = 0 from rfl] at hb
      have hk := w4 r hr
      rw [refB_eq r.Body [] List.nodup_nil (fun s hs => by cases hs) hk.un] at hb
      have hzz : ∀ b ∈ sols S r.Unequal r.Body [], (vars r.Body).zip (b.map Prod.snd) = b := fun b hb => by
        have : vars r.Body = b.map Prod.fst := (sols_sound _ _ _ hb).2.1.symm
        rw [this, zip_self]
      have hhead : (sols S r.Unequal r.Body []).map (fun b => ratom b r.Head) = rheads S r := by
        unfold rheads rsols
        refine List.map_congr_left fun b hb => ?_
        have : b.map Prod.fst = vars r.Body := (sols_sound _ _ _ hb).2.1
        exact ratom_eq (fun s hs => v2 s (by rw [← this]; exact hs)) (fun s hs hv => by rw [this]; exact hk.head s hs hv)
      have hd : rules.drop i = r :: rules.drop (i + 1) := by rw [← hrr]; exact List.drop_eq_getElem_cons h
      rw [hd, allH, List.flatMap_cons, List.length_append] at h4
      have hlen : (rheads S r).length = (sols S r.Unequal r.Body []).length := List.length_map _
      have e1 : (ix rules (i : Int) (fun y122 => ob1 (M_r16_Variables g y122.Body) (fun z123 => ix rules (i : Int) (fun y124 => ix rules (i : Int) (fun y125 =>
           ob1 (M_r16_bindings g S y124.Body y125.Unequal z123 [] 0) (fun z126 => M_r16_Round_L1 rules g (i : Int) z123 z126 g out 0))))) : Option (List GAtom)) = some ((rheads S r).foldl addA out) := by
        rw [ix_at hy, rvars_eq r.Body g (by omega) (by omega) (by omega) (by omega), ob1_some, ix_at hy, ix_at hy, hb, ob1_some]
        have := rnd1 rules g i r hy (vars r.Body) (sols S r.Unequal r.Body []) (by omega) (by omega) (by omega) (by omega) (by omega) hzz g 0 out (by omega) (Nat.zero_le _) (few8 (by omega) h3) (by omega) (by omega)
        rw [List.drop_zero, hhead, show ((0 : Nat) : Int) = 0 from rfl] at this
        exact this
      show ob1 _ _ = _
      rw [e1, ob1_some, hd, allH, List.flatMap_cons, List.foldl_append, wrap_eq (by omega) (by omega)]
      have hmem : ∀ (x l : List GAtom) z, z ∈ x.foldl addA l → z ∈ l ∨ z ∈ x := by
        intro x
        induction x with
        | nil => intro l z hz; exact .inl hz
        | cons a q ihx =>
          intro l z hz
          rw [List.foldl_cons] at hz
          rcases ihx _ z hz with e | e
          · rcases (addA_mem _ _ _).1 e with e | e
            · exact .inl e
            · exact .inr (by rw [e]; exact List.mem_cons_self ..)
          · exact .inr (List.mem_cons_of_mem _ e)
      have hfll : ∀ (x l : List GAtom), (x.foldl addA l).length ≤ l.length + x.length := by
        intro x
        induction x with
        | nil => intro l; exact Nat.le_refl _
        | cons a q ihx =>
          intro l
          have := ihx (addA l a)
          have := addA_len l a
          rw [List.foldl_cons]
          simp only [List.length_cons]
          omega
      have hl3 := hfll (rheads S r) out
      refine ih (i + 1) ((rheads S r).foldl addA out) (by omega) (by omega) (fun a ha => ?_) (by unfold allH; omega)
      rcases hmem _ _ _ ha with e | e
      · exact h3 a e
      · rw [rheads_args e]; exact hhl
    · rw [show decide ((i : Int) < ((rules.map cGRule).length : Int)) = false by simp; omega]
      rw [List.drop_of_length_le (by omega)]
      rfl
theorem rround_eq {rules : List GRule} {S : GSet} (hw : Wd rules S) (g : Nat) (hg : 1000000000000 < g) (hg2 : g ≤ 4611686018427387904) : M_r16_Round g S rules = some (nextS rules S) := by
  unfold M_r16_Round nextS
  have h1 := hw.cnt
  have h2 := hw.len
  have h3 := hw.nr
  have := rnd2 hw g hg hg2 g 0 S (by omega) (Nat.zero_le _) hw.args (by rw [List.drop_zero]; omega)
  rw [List.drop_zero, fold_setA hw.str] at this
  exact this
/-- the first error of facts and rules, but for the sizes -/
def wrongE (facts : List GAtom) (rules : List GRule) : Er := match firstE rules with
  | .no e => .no e
  | .nil => if facts.any badF = true then .no 2 else .nil
end Go.Proofs.YtflgpccacloadaaDoor.Am
/- Plain law: the model of a program that is not too large. -/
namespace Go.Proofs.YtflgpccacloadaaDoor.Am
open Go.RowKit
/-- what follows from the facts by the rules -/
inductive Der (facts : List GAtom) (rules : List GRule) : GAtom → Prop
  | fact {a : GAtom} : a ∈ facts → Der facts rules a
  | rule {r : GRule} {σ : Asg} : r ∈ rules → (∀ a ∈ r.Body, Der facts rules (inst σ a)) → (∀ p ∈ r.Unequal, trm σ p.1 ≠ trm σ p.2) → Der facts rules (inst σ r.Head)
structure Good (p : GProgram) : Prop where
  sm : Small p
  hx : ∀ a ∈ allA p, ∀ x ∈ a.Args, isV x = false → x.size ≤ 140737488355328
def CC (p : GProgram) : List ByteArray := consts (allA p)
theorem mem_fact {p : GProgram} {a : GAtom} (h : a ∈ p.Facts) : a ∈ allA p := List.mem_append_left _ h
theorem mem_rule {p : GProgram} {r : GRule} {a : GAtom} (hr : r ∈ p.Rules) (h : a ∈ r.Head :: r.Body) : a ∈ allA p := List.mem_append_right _ (List.mem_flatMap.2 ⟨r, hr, h⟩)
theorem CC_mem {p : GProgram} {a : GAtom} {x : ByteArray} (ha : a ∈ allA p) (hx : x ∈ a.Args) (hv : isV x = false) : x ∈ CC p := (addC_mem _ _ _).2 (.inr ⟨List.mem_flatMap.2 ⟨a, ha, hx⟩, hv⟩)
theorem CC_size {p : GProgram} (hp : Good p) {x : ByteArray} (h : x ∈ CC p) : x.size ≤ 140737488355328 := by
  rcases (addC_mem _ _ _).1 h with q | ⟨q, hv⟩
  · cases q
  · obtain ⟨a, ha, hx⟩ := List.mem_flatMap.1 q
    exact hp.hx a ha x hx hv
theorem ckOk_small {p : GProgram} (hp : Small p) {r : GRule} (hr : r ∈ p.Rules) : CkOk r ∧ (r.Body.flatMap (·.Args)).length ≤ 160 ∧ r.Body.length ≤ 20 ∧ r.Head.Args.length ≤ 8 ∧ r.Unequal.length ≤ 6 := by
  obtain ⟨b1, b2, b3, b4⟩ := hp.rule r hr
  have hfl : (r.Body.flatMap (·.Args)).length ≤ 20 * 8 := Nat.le_trans (flat_le _ 8 r.Body (fun a ha => (b4 a (List.mem_cons_of_mem _ ha)).1)) (Nat.mul_le_mul_right _ b2)
  have hh := (b4 r.Head (List.mem_cons_self ..)).1
  exact ⟨⟨by omega, by omega, by omega⟩, by omega, by omega, by omega, by omega⟩
theorem firstE_all : ∀ {l : List GRule}, firstE l = .nil → ∀ r ∈ l, ckR r = .nil
  | [], _, r, hr => by cases hr
  | x :: q, h, r, hr => by
    rw [firstE] at h
    split at h
    · rename_i hx
      rcases List.mem_cons.1 hr with e | e
      · rw [e]; exact hx
      · exact firstE_all h r e
    · cases h
theorem ckR_body {r : GRule} (h : ckR r = .nil) : r.Body.length ≤ 16 ∧ (∀ a ∈ r.Head :: r.Body, a.Args.length ≤ 6) := by
  unfold ckR at h
  split at h
  · cases h
  · split at h
    · cases h
    · split at h
      · cases h
      · rename_i h1 h2 h3
        refine ⟨by omega, fun a ha => ?_⟩
        have : ¬ longA a = true := fun q => h3 (List.any_eq_true.2 ⟨a, ha, q⟩)
        unfold longA at this
        simp at this
        exact this
theorem dec_len : ∀ u : Nat, (Lib.decDigits u).length ≤ u + 1 := by
  intro u
  induction u using Nat.strongRecOn with
  | _ u ih =>
    by_cases h : u < 10
    · rw [dec_sm h]; simp
    · rw [dec_bg h, List.length_append]
      have := ih (u / 10) (by omega)
      simp only [List.length_cons, List.length_nil]
      omega
theorem keyOk_of {a : GAtom} (hn : a.Name.size ≤ 100) (hl : a.Args.length ≤ 8) (hx : ∀ x ∈ a.Args, x.size ≤ 140737488355328) : KeyOk a := by
  refine ⟨?_, by omega⟩
  rw [← bl_len]
  unfold atomKey
  rw [bl_fold, bl_append, bl_append, bl_ita, List.length_append, List.length_append, List.length_append, bl_len, bl_len]
  have h1 := dec_len a.Name.size
  have h2 : (⟨#[32]⟩ : ByteArray).size = 1 := rfl
  have h3 : (a.Args.flatMap encL).length ≤ a.Args.length * 300000000000000 := flat_le _ _ _ (fun x hm => by
    have h4 := dec_len x.size
    have h5 := hx x hm
    unfold encL
    rw [List.length_cons, List.length_append, List.length_cons, bl_len]
    omega)
  have h4 : a.Args.length * 300000000000000 ≤ 8 * 300000000000000 := Nat.mul_le_mul_right _ hl
  omega
/-- the sets that a run reaches -/
structure Inv (p : GProgram) (S : GSet) : Prop where
  ck : ∀ r ∈ p.Rules, ckR r = .nil
  str : StrA S
  over : Over (CC p) S
  sml : ∀ a ∈ S, a.Args.length ≤ 8 ∧ a.Name.size ≤ 100
  frm : ∀ a ∈ S, a ∈ p.Facts ++ p.Rules.flatMap (made1 (CC p))
section
variable {p : GProgram} (hp : Good p)
include hp
theorem inv_len {S : GSet} (h : Inv p S) : S.length ≤ 180 := by
  have h1 := nodup_sub (strA_nodup h.str) h.frm
  rw [List.length_append, flat_len _ _ (made1_len (CC p))] at h1
  have h2 := hp.sm.facts
  have h3 := hp.sm.sum
  unfold CC at h1
  omega
theorem rsols_small {S : GSet} (h : Inv p S) {r : GRule} (hr : r ∈ p.Rules) : (rheads S r).length ≤ 1000 := by
  have h1 := rsols_len h.over (strA_nodup h.str) r
  have h2 := hp.sm.pow r hr
  have h3 : (rheads S r).length = (rsols S r).length := List.length_map _
  unfold CC at h1
  omega
theorem head_const {r : GRule} (hr : r ∈ p.Rules) : ∀ x ∈ r.Head.Args, isV x = false → x ∈ CC p := fun _ hx hv => CC_mem (mem_rule hr (List.mem_cons_self ..)) hx hv
theorem inv_allH {S : GSet} (h : Inv p S) : (allH S p.Rules).length ≤ 8000 := by
  have h1 : (allH S p.Rules).length ≤ p.Rules.length * 1000 := flat_le _ _ _ (fun r hr => rsols_small hp h hr)
  have h2 := hp.sm.rules
  omega
theorem inv_rnd {S : GSet} (h : Inv p S) : RndOk p.Rules S := by
  refine ⟨fun r hr => ?_, fun a ha => by have := (h.sml a ha).1; omega, by have := inv_allH hp h; omega⟩
  obtain ⟨b1, b2, b3, b4⟩ := hp.sm.rule r hr
  refine ⟨by omega, by omega, fun a ha => by have := (b4 a (List.mem_cons_of_mem _ ha)).1; omega, fun a ha => ?_⟩
  have h1 := rheads_made h.over (known_of (h.ck r hr)) (head_const hp hr) ha
  have h2 := b4 r.Head (List.mem_cons_self ..)
  refine keyOk_of ?_ (by rw [rheads_args ha]; exact h2.1) (fun x hx => CC_size hp (h1.2 x hx))
  obtain ⟨b, _, rfl⟩ := List.mem_map.1 ha
  exact h2.2
theorem inv_wd {S : GSet} (h : Inv p S) : Wd p.Rules S := by
  refine ⟨h.str, by have := inv_len hp h; omega, fun a ha => (h.sml a ha).1, fun r hr => known_of (h.ck r hr), fun r hr => ?_, by have := inv_allH hp h; omega, hp.sm.rules⟩
  obtain ⟨b1, b2, b3, b4⟩ := hp.sm.rule r hr
  have := (ckR_body (h.ck r hr)).1
  exact ⟨by omega, b3, fun a ha => (b4 a ha).1⟩
theorem inv_next {S : GSet} (h : Inv p S) : Inv p (nextS p.Rules S) := by
  have key : ∀ a ∈ allH S p.Rules, (∀ x ∈ a.Args, x ∈ CC p) ∧ (a.Args.length ≤ 8 ∧ a.Name.size ≤ 100) ∧ a ∈ p.Rules.flatMap (made1 (CC p)) := by
    intro a ha
    obtain ⟨r, hr, hq⟩ := List.mem_flatMap.1 ha
    have h1 := rheads_made h.over (known_of (h.ck r hr)) (head_const hp hr) hq
    have h2 := (hp.sm.rule r hr).atoms r.Head (List.mem_cons_self ..)
    refine ⟨h1.2, ⟨by rw [rheads_args hq]; exact h2.1, ?_⟩, List.mem_flatMap.2 ⟨r, hr, h1.1⟩⟩
    obtain ⟨b, _, rfl⟩ := List.mem_map.1 hq
    exact h2.2
  refine ⟨h.ck, (setA_spec _).1, fun a ha => ?_, fun a ha => ?_, fun a ha => ?_⟩
  · rcases mem_next.1 ha with q | q
    · exact h.over a q
    · exact (key a q).1
  · rcases mem_next.1 ha with q | q
    · exact h.sml a q
    · exact (key a q).2.1
  · rcases mem_next.1 ha with q | q
    · exact h.frm a q
    · exact List.mem_append_right _ (key a q).2.2
theorem inv_start (h1 : firstE p.Rules = .nil) (h2 : p.Facts.any badF = false) : Inv p (setA p.Facts) := by
  have hm : ∀ a, a ∈ setA p.Facts → a ∈ p.Facts := fun a ha => ((setA_spec _).2.1 a).1 ha
  refine ⟨firstE_all h1, (setA_spec _).1, fun a ha x hx => ?_, fun a ha => hp.sm.fargs a (hm a ha), fun a ha => List.mem_append_left _ (hm a ha)⟩
  refine CC_mem (mem_fact (hm a ha)) hx ?_
  have h3 := List.any_eq_false.1 h2 a (hm a ha)
  unfold badF at h3
  simp only [Bool.or_eq_true, not_or] at h3
  cases hv : isV x with
  | false => rfl
  | true => exact absurd (List.any_eq_true.2 ⟨x, hx, hv⟩) h3.2
theorem run_spec : ∀ (k : Nat) (S : GSet), Inv p S → 181 ≤ k + S.length → ∃ S', runS p.Rules k S = (S', .nil) ∧ Inv p S' ∧ nextS p.Rules S' = S' ∧ (∀ z ∈ S, z ∈ S') ∧ ∀ Q : GAtom → Prop, (∀ z ∈ S, Q z) → (∀ T : GSet, (∀ z ∈ T, Q z) → Inv p T → ∀ z ∈ allH T p.Rules, Q z) → ∀ z ∈ S', Q z := by
  intro k
  induction k with
  | zero => intro S h1 h2; have := inv_len hp h1; omega
  | succ k ih =>
    intro S h1 h2
    have h3 := inv_next hp h1
    have h4 := inv_len hp h3
    have hge := next_ge (rules := p.Rules) h1.str
    rw [runS, if_neg (by omega)]
    by_cases e : (nextS p.Rules S).length = S.length
    · rw [if_pos e]
      exact ⟨S, rfl, h1, next_fix h1.str e, fun z hz => hz, fun Q hQ _ => hQ⟩
    · rw [if_neg e]
      obtain ⟨S', g1, g2, g3, g4, g5⟩ := ih (nextS p.Rules S) h3 (by omega)
      refine ⟨S', g1, g2, g3, fun z hz => g4 z (mem_next.2 (.inl hz)), fun Q hQ hr => g5 Q (fun z hz => ?_) hr⟩
      rcases mem_next.1 hz with q | q
      · exact hQ z q
      · exact hr S hQ h1 z q
theorem solve_good (g : Nat) (hg : 3000000 < g) : M_datalog_Solve g p.Facts p.Rules = some (solveS g p.Facts p.Rules) := by
  have h1 := hp.sm.facts
  have h2 := hp.sm.rules
  refine solve_eq g p.Facts p.Rules (fun r hr => (ckOk_small hp.sm hr).1) ⟨fun a ha => by have := (hp.sm.fargs a ha).1; omega, by omega⟩ (by omega) (fun r hr => by have := (ckOk_small hp.sm hr).2.2.1; omega) hg (by omega) (Inv p) (fun h3 h4 _ => inv_start hp h3 h4) (fun S h => inv_rnd hp h) (fun S h _ => inv_next hp h)
theorem solve_wrong (g : Nat) {e : Int} (hw : wrongE p.Facts p.Rules = .no e) : solveS g p.Facts p.Rules = ([], .no e) := by
  unfold wrongE at hw
  unfold solveS
  cases hf : firstE p.Rules with
  | no e' => rw [hf] at hw; cases hw; rfl
  | nil =>
    rw [hf] at hw
    simp only [] at hw ⊢
    split at hw
    · rename_i hb
      rw [if_pos hb]; cases hw; rfl
    · cases hw
theorem wrong_nil (hw : wrongE p.Facts p.Rules = .nil) : firstE p.Rules = .nil ∧ p.Facts.any badF = false := by
  unfold wrongE at hw
  cases hf : firstE p.Rules with
  | no e' => rw [hf] at hw; cases hw
  | nil =>
    rw [hf] at hw
    simp only [] at hw
    split at hw
    · cases hw
    · rename_i hb; exact ⟨rfl, by simpa using hb⟩
theorem solve_nil (g : Nat) (hw : wrongE p.Facts p.Rules = .nil) : solveS g p.Facts p.Rules = runS p.Rules g (setA p.Facts) := by
  obtain ⟨h1, h2⟩ := wrong_nil hp hw
  have h3 := hp.sm.rules
  have h4 := inv_len hp (inv_start hp h1 h2)
  unfold solveS
  rw [h1]
  simp only []
  rw [h2, if_neg (by decide), if_neg (by omega), if_neg (by omega)]
/-- the model: what follows, in order -/
theorem solve_der (g : Nat) (hg : 3000000 < g) (hw : wrongE p.Facts p.Rules = .nil) : ∃ S, solveS g p.Facts p.Rules = (S, .nil) ∧ Inv p S ∧ S.length ≤ 180 ∧ nextS p.Rules S = S ∧ ∀ z, z ∈ S ↔ Der p.Facts p.Rules z := by
  obtain ⟨h1, h2⟩ := wrong_nil hp hw
  obtain ⟨S, g1, g2, g3, g4, g5⟩ := run_spec hp g (setA p.Facts) (inv_start hp h1 h2) (by omega)
  have hk : ∀ r ∈ p.Rules, Known r := fun r hr => known_of (firstE_all h1 r hr)
  refine ⟨S, by rw [solve_nil hp g hw, g1], g2, inv_len hp g2, g3, fun z => ⟨fun hz => ?_, fun hz => ?_⟩⟩
  · refine g5 (Der p.Facts p.Rules) (fun z hz => .fact (((setA_spec _).2.1 z).1 hz)) (fun T hT _ z hz => ?_) z hz
    obtain ⟨r, hr, σ, ⟨h3, h4⟩, rfl⟩ := (allH_mem hk).1 hz
    exact .rule hr (fun a ha => hT _ (h3 a ha)) h4
  · induction hz with
    | fact h => exact g4 _ (((setA_spec _).2.1 _).2 h)
    | rule hr hb hu ih =>
      rw [← g3]
      exact mem_next.2 (.inr ((allH_mem hk).2 ⟨_, hr, _, ⟨ih, hu⟩, rfl⟩))
end
end Go.Proofs.YtflgpccacloadaaDoor.Am
/- Models printed by my decompiler, and the proofs that the code computes them. -/
namespace Go.Proofs.YtflgpccacloadaaDoor.Am
open Go.RowKit
end Go.Proofs.YtflgpccacloadaaDoor.Am
/- Plain law: DatalogSolves. -/
namespace Go.Proofs.YtflgpccacloadaaDoor.Am
open Go.RowKit
/-- what the guards ask -/
structure PrgOk (p : GProgram) : Prop where
  fl : p.Facts.length ≤ 3600000000000
  rl : p.Rules.length ≤ 3600000000000
  hx : ∀ a ∈ allA p, ∀ x ∈ a.Args, isV x = false → x.size ≤ 140737488355328
theorem prg_good {p : GProgram} (h : PrgOk p) (hs : Small p) : Good p := ⟨hs, h.hx⟩
def GG : Nat := 4000000000000
theorem large_ok {p : GProgram} (h : PrgOk p) : ∃ b, M_stratagem_stratagemlaw16_Program_Large GG p = some b ∧ (b = false → Good p) := by
  obtain ⟨b, h1, h2⟩ := large_eq GG p (by decide) (Nat.le_trans h.fl (by decide)) (Nat.le_trans h.rl (by decide)) (Nat.lt_of_le_of_lt h.fl (by decide))
  exact ⟨b, h1, fun hb => prg_good h (h2 hb)⟩
end Go.Proofs.YtflgpccacloadaaDoor.Am
/- Readers of programs of facts and rules, with the sizes of their strings. -/
namespace Go.Proofs.YtflgpccacloadaaDoor.Am
open Go.RowKit Go.ChangeShapes Go.WideShapes Go.Deep Go.Joins
def zA (a : GAtom) : Prop := ∀ x ∈ a.Args, x.size ≤ 140737488355328
def zAs (l : List GAtom) : Prop := l.length * 40 ≤ 140737488355328 ∧ ∀ a ∈ l, zA a
def zP (p : ByteArray × ByteArray) : Prop := p.1.size ≤ 140737488355328 ∧ p.2.size ≤ 140737488355328
def zR (r : GRule) : Prop := zA r.Head ∧ (∀ a ∈ r.Body, zA a) ∧ ∀ p ∈ r.Unequal, zP p
section
variable {H : Type} {enc : TypeId × Value → H} {w : World} {base : Nat} {spare : Nat → Bool} {held : Bool}
set_option maxRecDepth 100000 in
theorem zAtom : OpensB enc Tryd.prog w base spare held 24 cGAtom zA wA :=
  opensB_conv (fun p : ByteArray × List ByteArray => { Name := p.1, Args := p.2 : GAtom })
    (opensB_struct Tryd.underlying24
      (opensFB_cons (off' := 1) (en := fun s : ByteArray => [AV.c (.string s)]) (R := fun s => s.size ≤ 140737488355328) (wt := fun s => s.size + 1) (en' := fun l : List ByteArray => [AV.sl 1 (l.map cS)]) (R' := fun l : List ByteArray => l.length * 16 ≤ 140737488355328 ∧ ∀ s ∈ l, s.size ≤ 140737488355328) (wt' := fun l : List ByteArray => (l.map (fun s : ByteArray => s.size + 1)).sum + 1) rfl (by kernel_rfl) (opensB_str Tryd.underlying9) (opensFB_last rfl (by kernel_rfl) bStrs)))
    (fun _ => rfl) (fun _ h => h.2.2) (fun _ => Nat.le_refl _)
set_option maxRecDepth 100000 in
theorem zAtoms : OpensB enc Tryd.prog w base spare held 25 (fun l : List GAtom => [.sl 2 (l.map cGAtom)]) zAs wAs :=
  opensB_slice (sz := 2) (by_ := 40) Tryd.underlying25 (by kernel_rfl) (by kernel_rfl) (by decide) (by decide) zAtom
theorem sized_part {P : Program} {t e : TypeId} {n : Nat} {parts : List (DataW H)} (h : Sized P t (.agg parts)) (hu : P.underlying t = some (.array n e)) {d : DataW H} (hd : d ∈ parts) : Sized P e d :=
  fun n hn => h n (by
    simp only [DataW.weights, hu]
    exact weightsAll_mem hd n hn)
theorem sized_str {P : Program} {t : TypeId} {z : ByteArray} (h : Sized P t (.lit (.string z.data.toList) : DataW H)) : z.size ≤ 140737488355328 := by
  have e : z.data.toList.length = z.size := by rw [Array.length_toList]; rfl
  have h1 : z.data.toList.length ≤ 140737488355328 := Nat.le_trans (h z.data.toList.length (List.mem_singleton.2 rfl)) (by decide)
  omega
set_option maxRecDepth 100000 in
theorem zPair : OpensB enc Tryd.prog w base spare held 58 cA2_cS zP (fun p => p.1.size + p.2.size + 2) := by
  intro fuel cs x hx hsz
  obtain ⟨xs, m, _, rfl, hcl, hxl, hf⟩ := DataW.trod_array Tryd.underlying58 hx
  have hc : Tryd.prog.cellsOf 58 = 2 := by kernel_rfl
  have hi : Tryd.prog.cellsOf 9 = 1 := by kernel_rfl
  rw [hc] at hcl
  match cs, hcl, xs, hxl, hf with
  | [c0, c1], _, [x0, x1], _, hf =>
    have h0 := hf 0 (by decide)
    have h1 := hf 1 (by decide)
    rw [hi] at h0 h1
    obtain ⟨z0, e0, q0, _⟩ := DataW.trod_string Tryd.underlying9 h0
    obtain ⟨z1, e1, q1, _⟩ := DataW.trod_string Tryd.underlying9 h1
    have e0' : c0 = .string z0 := by simpa using e0
    have e1' : c1 = .string z1 := by simpa using e1
    subst e0' e1'
    have k0 : z0.data.toList.length = z0.size := by rw [Array.length_toList]; rfl
    have k1 : z1.data.toList.length = z1.size := by rw [Array.length_toList]; rfl
    refine ⟨(z0, z1), ⟨?_, ?_⟩, ?_, cells_append (cells_one1 (.c _) rfl (.c _)) (cells_one1 (.c _) rfl (.c _))⟩
    · exact sized_str (P := Tryd.prog) (t := 9) (sized_part hsz Tryd.underlying58 (by show (DataW.lit (Lit.string z0.data.toList) : DataW H) ∈ [x0.1, x1.1]; rw [q0]; exact List.mem_cons_self ..))
    · exact sized_str (P := Tryd.prog) (t := 9) (sized_part hsz Tryd.underlying58 (by show (DataW.lit (Lit.string z1.data.toList) : DataW H) ∈ [x0.1, x1.1]; rw [q1]; exact List.mem_cons_of_mem _ (List.mem_cons_self ..)))
    rw [q0, q1]
    simp only [List.map_cons, List.map_nil, Rows.uptoBulk, Rows.uptoBulkAll, k0, k1]
    omega
def zUn (l : List (ByteArray × ByteArray)) : Prop := l.length * 32 ≤ 140737488355328 ∧ ∀ p ∈ l, zP p
set_option maxRecDepth 100000 in
theorem zUns : OpensB enc Tryd.prog w base spare held 26 (fun l : List (ByteArray × ByteArray) => [.sl 2 (l.map cA2_cS)]) zUn wUn :=
  opensB_slice (sz := 2) (by_ := 32) Tryd.underlying26 (by kernel_rfl) (by kernel_rfl) (by decide) (by decide) zPair
set_option maxRecDepth 100000 in
theorem zRule : OpensB enc Tryd.prog w base spare held 28 cGRule zR wR :=
  opensB_conv (fun p : GAtom × (List GAtom × List (ByteArray × ByteArray)) => { Head := p.1, Body := p.2.1, Unequal := p.2.2 : GRule })
    (opensB_struct Tryd.underlying28
      (opensFB_cons (off' := 2) (en := cGAtom) (R := zA) (wt := wA) (en' := fun p : List GAtom × List (ByteArray × ByteArray) => [AV.sl 2 (p.1.map cGAtom)] ++ [AV.sl 2 (p.2.map cA2_cS)]) (R' := fun p => zAs p.1 ∧ zUn p.2) (wt' := fun p => wAs p.1 + wUn p.2) rfl (by kernel_rfl) zAtom
        (opensFB_cons (off' := 3) (en := fun l : List GAtom => [AV.sl 2 (l.map cGAtom)]) (R := zAs) (wt := wAs) (en' := fun l : List (ByteArray × ByteArray) => [AV.sl 2 (l.map cA2_cS)]) (R' := zUn) (wt' := wUn) rfl (by kernel_rfl) zAtoms (opensFB_last rfl (by kernel_rfl) zUns))))
    (fun _ => rfl) (fun _ h => ⟨h.1, h.2.1.2, h.2.2.2⟩) (fun _ => Nat.le_refl _)
def zRs (l : List GRule) : Prop := l.length * 88 ≤ 140737488355328 ∧ ∀ r ∈ l, zR r
def wRs (l : List GRule) : Nat := (l.map wR).sum + 1
set_option maxRecDepth 100000 in
theorem zRules : OpensB enc Tryd.prog w base spare held 36 (fun l : List GRule => [.sl 4 (l.map cGRule)]) zRs wRs :=
  opensB_slice (sz := 4) (by_ := 88) Tryd.underlying36 (by kernel_rfl) (by kernel_rfl) (by decide) (by decide) zRule
set_option maxRecDepth 100000 in
theorem zProg : OpensB enc Tryd.prog w base spare held 38 cGProgram (fun p => zAs p.Facts ∧ zRs p.Rules) (fun p => wAs p.Facts + wRs p.Rules) :=
  opensB_conv (fun p : List GAtom × List GRule => { Facts := p.1, Rules := p.2 : GProgram })
    (opensB_struct Tryd.underlying38
      (opensFB_cons (off' := 1) (en := fun l : List GAtom => [AV.sl 2 (l.map cGAtom)]) (R := zAs) (wt := wAs) (en' := fun l : List GRule => [AV.sl 4 (l.map cGRule)]) (R' := zRs) (wt' := wRs) rfl (by kernel_rfl) zAtoms (opensFB_last rfl (by kernel_rfl) zRules)))
    (fun _ => rfl) (fun _ h => h) (fun _ => Nat.le_refl _)
end
theorem prgOk_of {p : GProgram} (h1 : zAs p.Facts) (h2 : zRs p.Rules) : PrgOk p := by
  refine ⟨by have := h1.1; omega, by have := h2.1; omega, fun a ha x hx _ => ?_⟩
  rcases List.mem_append.1 ha with q | q
  · exact h1.2 a q x hx
  · obtain ⟨r, hr, q⟩ := List.mem_flatMap.1 q
    rcases List.mem_cons.1 q with e | e
    · rw [e] at hx; exact (h2.2 r hr).1 x hx
    · exact (h2.2 r hr).2.1 a e x hx
end Go.Proofs.YtflgpccacloadaaDoor.Am
/- Models printed by my decompiler, and the proofs that the code computes them. -/
namespace Go.Proofs.YtflgpccacloadaaDoor.Am
open Go.RowKit
theorem ci_XDLModel {p K : Prop} (k : K) (h : p := by first | rfl | exact ⟨rfl, rfl⟩ | exact BW.mpf rfl rfl rfl FrI.h rfl | exact cloK3 rfl rfl rfl rfl rfl rfl rfl rfl rfl | exact CloK.bw (BW.fr (by assumption)) | exact BW.fr FrV.h | (refine BW.fr ?_; assumption) | (refine ⟨rfl, ?_⟩; (simp [cGProgram, cGAtom, cS, cGRule, cA2_cS, cF, take_len_map]; done)) | (refine RowK.same ?_ FrI.h; first | rfl | (simp [cGProgram, cGAtom, cS, cGRule, cA2_cS, cF, take_len_map]; done)) | (refine row_part1 ?_; (repeat (first | exact BWL.nil | exact bwll_nil | exact bw_c | exact BW.sl | exact BW.nil | exact bwll_same rfl FrI.h | refine BWL.cons ?_ ?_ | refine bwll_cons ?_ ?_ | (refine bw_own3 rfl rfl rfl FrI.h ?_ ?_ ?_) | exact BW.mpf rfl rfl rfl FrI.h rfl | exact cloK3 rfl rfl rfl rfl rfl rfl rfl rfl rfl | exact CloK.bw (BW.fr (by assumption)) | exact BW.fr FrV.h | exact BW.fr (by assumption) | refine bw_agg ?_ | refine bw_clo ?_ | refine bw_ptr rfl rfl rfl ?_ | (refine bw_own rfl rfl rfl ?_ FrI.h ?_ ?_) | assumption | omega | rfl | (rw [List.length_map, ← List.length_append]; assumption) | (refine bwll_same ?_ FrI.h; (simp [cGProgram, cGAtom, cS, cGRule, cA2_cS, cF] <;> fail)) | (rw [List.map_set]; refine bwll_set (by first | rfl | omega | simp) ?_ ?_) | refine bwll_set (by first | rfl | omega | simp) ?_ ?_ | (rw [List.map_replicate]; refine bwll_rep ?_) | refine bwll_rep ?_ | (rw [List.map_append]; refine bwll_append ?_ ?_) | refine bwll_append ?_ ?_ | (simp [cGProgram, cGAtom, cS, cGRule, cA2_cS, cF, take_len_map] <;> fail) | (rw [List.drop_zero, List.take_of_length_le] <;> first | rfl | (simp [cGProgram, cGAtom, cS, cGRule, cA2_cS, cF] <;> fail)) | (simp; omega) | (simp only [List.length_map, List.length_append, List.drop_zero, List.length_cons, List.length_nil, Nat.zero_add, Nat.add_zero] at *; omega))); done) | ((repeat (first | exact BWL.nil | exact bwll_nil | exact bw_c | exact BW.sl | exact BW.nil | exact bwll_same rfl FrI.h | refine BWL.cons ?_ ?_ | refine bwll_cons ?_ ?_ | (refine bw_own3 rfl rfl rfl FrI.h ?_ ?_ ?_) | exact BW.mpf rfl rfl rfl FrI.h rfl | exact cloK3 rfl rfl rfl rfl rfl rfl rfl rfl rfl | exact CloK.bw (BW.fr (by assumption)) | exact BW.fr FrV.h | exact BW.fr (by assumption) | refine bw_agg ?_ | refine bw_clo ?_ | refine bw_ptr rfl rfl rfl ?_ | (refine bw_own rfl rfl rfl ?_ FrI.h ?_ ?_) | assumption | omega | rfl | (rw [List.length_map, ← List.length_append]; assumption) | (refine bwll_same ?_ FrI.h; (simp [cGProgram, cGAtom, cS, cGRule, cA2_cS, cF] <;> fail)) | (rw [List.map_set]; refine bwll_set (by first | rfl | omega | simp) ?_ ?_) | refine bwll_set (by first | rfl | omega | simp) ?_ ?_ | (rw [List.map_replicate]; refine bwll_rep ?_) | refine bwll_rep ?_ | (rw [List.map_append]; refine bwll_append ?_ ?_) | refine bwll_append ?_ ?_ | (simp [cGProgram, cGAtom, cS, cGRule, cA2_cS, cF, take_len_map] <;> fail) | (rw [List.drop_zero, List.take_of_length_le] <;> first | rfl | (simp [cGProgram, cGAtom, cS, cGRule, cA2_cS, cF] <;> fail)) | (simp; omega) | (simp only [List.length_map, List.length_append, List.drop_zero, List.length_cons, List.length_nil, Nat.zero_add, Nat.add_zero] at *; omega))); done) | (simp [cGProgram, cGAtom, cS, cGRule, cA2_cS, cF, take_len_map]; done)) : p ∧ K := ⟨h, k⟩
theorem ca_XDLModel {P : Prop} (h : P := by repeat (first | exact True.intro | refine ci_XDLModel ?_)) : P := h
theorem pr_XDLModel {p K : Prop} (k : K) (h : p := by first | assumption | exact Int.natCast_nonneg _ | exact Nat.le_refl _ | exact Nat.zero_le _ | omega | (simp; done) | (simp; omega)) : p ∧ K := ⟨h, k⟩
theorem dr_XDLModel {b : Bool} {p K : Prop} (k : K) (h : b = true → p := by intro h; first | (cases h; done) | exact ⟨by kernel_rfl, by kernel_rfl⟩) : (b = true → p) ∧ K := ⟨h, k⟩
theorem cl_XDLModel {C : Cx} {n : Nat} {o : Oper} {τ : Nat → AV} {η : Nat → Ent} {f : FuncId} {os : Array Operand} {ats : Array TypeId} {r : AV} {args : List AV} {K : Foot → Prop} (ho : o.op = .call ⟨.value (.func f), os, ats⟩) (hc : ACall C f args r) (k : K ⟨r, [], []⟩)
    (hd : InB n o.dst := by exact Nat.le_of_ble_eq_true rfl) (hargs : os.toList.map (evA τ) = args := by first | rfl | (simp [cGProgram, cGAtom, cS, cGRule, cA2_cS, cF]; done) | (repeat (first | exact rfl | refine cons_eq ?_ ?_ | exact sl_dt rfl))) (hfr : frs args := by repeat (first | exact trivial | exact fr1_eA _ | exact fr0_eA _ | exact fr1_fr (by assumption) | exact FrV.h | exact fr0_fr FrV.h | exact fr1_fr FrV.h | refine And.intro ?_ ?_)) (hr : fr1 r := by repeat (first | exact trivial | exact fr1_eA _ | exact fr0_eA _ | exact fr1_fr (by assumption) | exact FrV.h | exact fr0_fr FrV.h | exact fr1_fr FrV.h | refine And.intro ?_ ?_)) : ∃ f : Foot, LF C n o τ η f ∧ K f := ⟨_, lf_call ho hd hargs hc hfr hr, k⟩
def M_l16_DatalogModel_L1 (g : Nat) (z11 : List GAtom) : Nat → Int → Option (Unit ⊕ Bool)
  | 0, _ => none
  | k36 + 1, v35 =>
    sel (decide (v35 < ((z11.map cGAtom).length : Int)))
     (ix z11 (IntKind.i64.wrap (v35 - 1)) (fun y37 =>
       ix z11 v35 (fun y38 =>
        ob1 (M_r10_Compare g y37 y38) (fun z39 =>
         sel (decide (z39 ≥ 0))
          (some (.inr false))
          (M_l16_DatalogModel_L1 g z11 k36 (IntKind.i64.wrap (v35 + 1)))))))
     (some (.inl ()))
def M_l16_DatalogModel_L2 (a0 : GProgram) (g : Nat) (z11 : List GAtom) : Nat → Int → Option (Unit ⊕ Bool)
  | 0, _ => none
  | k57 + 1, v56 =>
    sel (decide (v56 < ((a0.Facts.map cGAtom).length : Int)))
     (ix a0.Facts v56 (fun y58 =>
       ob1 (M_r10_Has g z11 y58) (fun z59 =>
        sel (!z59)
         (some (.inr false))
         (M_l16_DatalogModel_L2 a0 g z11 k57 (IntKind.i64.wrap (v56 + 1))))))
     (some (.inl ()))
def M_l16_DatalogModel_L3 (a0 : GProgram) (g : Nat) : Nat → (List GAtom) → Int → Option (List GAtom)
  | 0, _, _ => none
  | k82 + 1, v80, v81 =>
    sel (decide (v81 < ((a0.Facts.map cGAtom).length : Int)))
     (ix a0.Facts v81 (fun y83 =>
       ob1 (M_r10_Add g v80 y83) (fun z84 =>
        M_l16_DatalogModel_L3 a0 g k82 z84 (IntKind.i64.wrap (v81 + 1)))))
     (some v80)
def M_l16_DatalogModel_L4 (a0 : GProgram) (g : Nat) : Nat → (List GAtom) → Int → Option (List GAtom)
  | 0, _, _ => none
  | k101 + 1, v99, v100 =>
    sel (v100 != ((v99.map cGAtom).length : Int))
     (ob1 (M_r16_Round g v99 a0.Rules) (fun z102 =>
       M_l16_DatalogModel_L4 a0 g k101 z102 ((v99.map cGAtom).length : Int)))
     (some v99)
def M_l16_DatalogModel (g : Nat) (a0 : GProgram) : Option (Bool) :=
  ob1 (ob1 (M_stratagem_stratagemlaw16_Program_Large g a0) (fun z7 =>
    sel z7
     (ob1 (M_l16_awake g) (fun z10 =>
       some (.inr z10)))
     (ob1 (M_l16_awake g) (fun z8 =>
       sel (!z8)
        (ob1 (M_l16_awake g) (fun z9 =>
          some (.inr z9)))
        (some (.inl ()))))) : Option (Unit ⊕ Bool))
   (osum
   (fun _ => ob2 (M_datalog_Solve g a0.Facts a0.Rules) (fun z11 z12 =>
      erM z12
       (ob1 (M_l16_DatalogModel_L1 g z11 g 1 : Option (Unit ⊕ Bool))
         (osum
         (fun _ => ob1 (M_l16_DatalogModel_L2 a0 g z11 g 0 : Option (Unit ⊕ Bool))
            (osum
            (fun _ => ob1 (M_r16_Round g z11 a0.Rules) (fun z60 =>
               sel (((z60.map cGAtom).length : Int) != ((z11.map cGAtom).length : Int))
                (some false)
                (ob1 (M_l16_DatalogModel_L3 a0 g g [] 0 : Option (List GAtom))
                  (fun v72 => ob1 (M_l16_DatalogModel_L4 a0 g g v72 (-1) : Option (List GAtom))
                     (fun v93 => some (((v93.map cGAtom).length : Int) == ((z11.map cGAtom).length : Int)))))))
            (fun r49 => some r49)))
         (fun r26 => some r26)))
       (fun _ => some (((z11.map cGAtom).length : Int) == 0))))
   (fun r5 => some r5))
set_option maxHeartbeats 16000000 in
set_option maxRecDepth 100000 in
theorem A_l16_DatalogModel (g : Nat) (a0 : GProgram) {r1 : Bool} (h : M_l16_DatalogModel g a0 = some r1) : ACall cx 5 [.agg [.sl 2 (a0.Facts.map cGAtom), .sl 4 (a0.Rules.map cGRule)]] (.c (.bool r1)) := by
  refine aOf Tryd.func5 rfl (by decide) rfl (Nat.le_of_ble_eq_true rfl) ?_; intro _; unfold M_l16_DatalogModel at h; refine aSR ?_; intro _; refine dr_XDLModel ?_; obtain ⟨o1, h, hK2⟩ := ob1_ok h; refine awp_cut (α := Unit) (fun _ => mkS 99 [(1, .ptr 1 0 0 0)] [(1, ⟨38, 2, true, [[.sl 2 (a0.Facts.map cGAtom), .sl 4 (a0.Rules.map cGRule)]]⟩)]) (fun v => o1 = (.inl v)) ?_ ?_
  · refine aSR ?_; intro _; obtain ⟨z7, u3, h⟩ := ob1_ok h; refine cl_XDLModel rfl (A_stratagem_stratagemlaw16_Program_Large g a0 u3) ?_; intro _; refine spf h (fun c4 h => ?_) (fun c4 h => ?_)
    · intro _; obtain ⟨z8, u5, h⟩ := ob1_ok h; refine cl_XDLModel rfl (A_l16_awake g u5) ?_; intro _; refine dr_XDLModel ?_; refine aCd ?_; intro _; refine spl h (fun c6 h => ?_) (fun c6 h => ?_)
      · refine aSR ?_; intro _; obtain ⟨z9, u7, h⟩ := ob1_ok h; refine cl_XDLModel rfl (A_l16_awake g u7) ?_; intro _; refine dr_XDLModel ?_; refine aRt ?_; have j8 := Option.some.inj h; subst j8; replace h := (osum_r hK2); intro _; obtain rfl := inj1 h; exact ca_XDLModel
      · refine aSk ?_; refine ⟨(), (Option.some.inj h).symm, ?_⟩; exact ca_XDLModel
    · intro _; refine dr_XDLModel ?_; refine aCd ?_; intro _; refine litT ?_; refine aSR ?_; intro _; obtain ⟨z10, u9, h⟩ := ob1_ok h; refine cl_XDLModel rfl (A_l16_awake g u9) ?_; intro _; refine dr_XDLModel ?_; refine aRt ?_; have j10 := Option.some.inj h; subst j10; replace h := (osum_r hK2); intro _; obtain rfl := inj1 h; exact ca_XDLModel
  · rintro _ ho; have ho := ho.symm; subst ho; intro _; replace h := (osum_l hK2); refine aSR ?_; intro _; obtain ⟨z11, z12, u11, h⟩ := ob2_ok h; refine cl_XDLModel rfl (A_datalog_Solve g a0.Facts a0.Rules u11) ?_; intro _; refine dr_XDLModel ?_; refine aSq ?_; refine aSq ?_; rcases z12 with _ | e13
    · replace h := erM_nil h; refine aRg ?_; intro _; refine dr_XDLModel ?_; refine aCd ?_; intro _; refine litF ?_; refine aSk ?_; obtain ⟨o12, h, hK13⟩ := ob1_ok h; refine awp_cut (α := Unit) (fun _ => mkS 99 [(1, .ptr 1 0 0 0), (3, .sl 2 (z11.map cGAtom))] [(1, ⟨38, 2, true, [[.sl 2 (a0.Facts.map cGAtom), .sl 4 (a0.Rules.map cGRule)]]⟩)]) (fun v => o12 = (.inl v)) ?_ ?_
      · refine aSR ?_; intro _; refine dr_XDLModel ?_; refine aBk ?_; refine awp_loop (α := Nat × Int) (fun x => mkS 99 [(1, .ptr 1 0 0 0), (3, .sl 2 (z11.map cGAtom)), (5, .c (.int .i64 x.2))] [(1, ⟨38, 2, true, [[.sl 2 (a0.Facts.map cGAtom), .sl 4 (a0.Rules.map cGRule)]]⟩)]) (fun x => M_l16_DatalogModel_L1 g z11 x.1 x.2 = some o12) (fun x => x.1) (g, 1) h ?_ ?_
        · exact ca_XDLModel
        · intro x14 h; intro _; obtain ⟨k36, m15, h⟩ := succ_of (f := fun n => M_l16_DatalogModel_L1 g z11 n x14.2) rfl h; replace h : M_l16_DatalogModel_L1 g z11 (k36 + 1) x14.2 = some o12 := h; rw [M_l16_DatalogModel_L1] at h; refine aSq ?_; refine aSR ?_; intro _; refine dr_XDLModel ?_; refine aCd ?_; intro _; refine spl h (fun c16 h => ?_) (fun c16 h => ?_)
          · refine aSk ?_; refine aSq ?_; refine aBk ?_; refine aSR ?_; intro _; obtain ⟨y37, w17, q18, h⟩ := ix_ok h; refine Exists.intro (cGAtom y37) (And.intro (map_at' w17) ?_); intro _; obtain ⟨y38, w19, q20, h⟩ := ix_ok h; refine Exists.intro (cGAtom y38) (And.intro (map_at' w19) ?_); intro _; obtain ⟨z39, u21, h⟩ := ob1_ok h; refine cl_XDLModel rfl (A_r10_Compare g y37 y38 u21) ?_; intro _; refine pr_XDLModel ?_; refine pr_XDLModel ?_; refine dr_XDLModel ?_; refine aCd ?_; intro _; refine spl h (fun c22 h => ?_) (fun c22 h => ?_)
            · refine aSR ?_; intro _; refine dr_XDLModel ?_; refine aRt ?_; have j23 := Option.some.inj h; subst j23; replace h := (osum_r hK13); intro _; obtain rfl := inj1 h; exact ca_XDLModel
            · refine aSk ?_; refine aRg ?_; intro _; refine dr_XDLModel ?_; refine ⟨(k36, (IntKind.i64.wrap (x14.2 + 1))), h, ltS m15, ?_⟩; exact ca_XDLModel
          · refine aEx ?_; refine ⟨(), (Option.some.inj h).symm, ?_⟩; exact ca_XDLModel
      · rintro _ ho; have ho := ho.symm; subst ho; intro _; replace h := (osum_l hK13); obtain ⟨o24, h, hK25⟩ := ob1_ok h; refine awp_cut (α := Unit) (fun _ => mkS 99 [(1, .ptr 1 0 0 0), (3, .sl 2 (z11.map cGAtom))] [(1, ⟨38, 2, true, [[.sl 2 (a0.Facts.map cGAtom), .sl 4 (a0.Rules.map cGRule)]]⟩)]) (fun v => o24 = (.inl v)) ?_ ?_
        · refine aSR ?_; intro _; refine dr_XDLModel ?_; refine aBk ?_; refine awp_loop (α := Nat × Int) (fun x => mkS 99 [(1, .ptr 1 0 0 0), (3, .sl 2 (z11.map cGAtom)), (6, .c (.int .i64 x.2))] [(1, ⟨38, 2, true, [[.sl 2 (a0.Facts.map cGAtom), .sl 4 (a0.Rules.map cGRule)]]⟩)]) (fun x => M_l16_DatalogModel_L2 a0 g z11 x.1 x.2 = some o24) (fun x => x.1) (g, 0) h ?_ ?_
          · exact ca_XDLModel
          · intro x26 h; intro _; obtain ⟨k57, m27, h⟩ := succ_of (f := fun n => M_l16_DatalogModel_L2 a0 g z11 n x26.2) rfl h; replace h : M_l16_DatalogModel_L2 a0 g z11 (k57 + 1) x26.2 = some o24 := h; rw [M_l16_DatalogModel_L2] at h; refine aSq ?_; refine aSR ?_; intro _; refine dr_XDLModel ?_; refine aCd ?_; intro _; refine spl h (fun c28 h => ?_) (fun c28 h => ?_)
            · refine aSk ?_; refine aSq ?_; refine aBk ?_; refine aSR ?_; intro _; obtain ⟨y58, w29, q30, h⟩ := ix_ok h; refine Exists.intro (cGAtom y58) (And.intro (map_at' w29) ?_); intro _; obtain ⟨z59, u31, h⟩ := ob1_ok h; refine cl_XDLModel rfl (A_r10_Has g z11 y58 u31) ?_; intro _; refine pr_XDLModel ?_; refine dr_XDLModel ?_; refine aCd ?_; intro _; refine spl h (fun c32 h => ?_) (fun c32 h => ?_)
              · refine aSR ?_; intro _; refine dr_XDLModel ?_; refine aRt ?_; have j33 := Option.some.inj h; subst j33; replace h := (osum_r hK25); intro _; obtain rfl := inj1 h; exact ca_XDLModel
              · refine aSk ?_; refine aRg ?_; intro _; refine dr_XDLModel ?_; refine ⟨(k57, (IntKind.i64.wrap (x26.2 + 1))), h, ltS m27, ?_⟩; exact ca_XDLModel
            · refine aEx ?_; refine ⟨(), (Option.some.inj h).symm, ?_⟩; exact ca_XDLModel
        · rintro _ ho; have ho := ho.symm; subst ho; intro _; replace h := (osum_l hK25); refine aSq ?_; refine aSR ?_; intro _; obtain ⟨z60, u34, h⟩ := ob1_ok h; refine cl_XDLModel rfl (A_r16_Round g z11 a0.Rules u34) ?_; intro _; refine dr_XDLModel ?_; refine aCd ?_; intro _; refine spl h (fun c35 h => ?_) (fun c35 h => ?_)
          · refine aSR ?_; intro _; refine dr_XDLModel ?_; refine aRt ?_; intro _; obtain rfl := inj1 h; exact ca_XDLModel
          · refine aSk ?_; refine aSR ?_; intro _; refine dr_XDLModel ?_; obtain ⟨o36, h, hK37⟩ := ob1_ok h; refine awp_cut (α := List GAtom) (fun v72 => mkS 99 [(1, .ptr 1 0 0 0), (3, .sl 2 (z11.map cGAtom)), (7, .sl 2 (v72.map cGAtom))] [(1, ⟨38, 2, true, [[.sl 2 (a0.Facts.map cGAtom), .sl 4 (a0.Rules.map cGRule)]]⟩)]) (fun v => o36 = v) ?_ ?_
            · refine aSR ?_; intro _; refine dr_XDLModel ?_; refine aBk ?_; refine awp_loop (α := Nat × (List GAtom) × Int) (fun x => mkS 99 [(1, .ptr 1 0 0 0), (3, .sl 2 (z11.map cGAtom)), (7, .sl 2 (x.2.1.map cGAtom)), (8, .c (.int .i64 x.2.2))] [(1, ⟨38, 2, true, [[.sl 2 (a0.Facts.map cGAtom), .sl 4 (a0.Rules.map cGRule)]]⟩)]) (fun x => M_l16_DatalogModel_L3 a0 g x.1 x.2.1 x.2.2 = some o36) (fun x => x.1) (g, [], 0) h ?_ ?_
              · exact ca_XDLModel
              · intro x38 h; intro _; obtain ⟨k82, m39, h⟩ := succ_of (f := fun n => M_l16_DatalogModel_L3 a0 g n x38.2.1 x38.2.2) rfl h; replace h : M_l16_DatalogModel_L3 a0 g (k82 + 1) x38.2.1 x38.2.2 = some o36 := h; rw [M_l16_DatalogModel_L3] at h; refine aSq ?_; refine aSR ?_; intro _; refine dr_XDLModel ?_; refine aCd ?_; intro _; refine spl h (fun c40 h => ?_) (fun c40 h => ?_)
                · refine aSk ?_; refine aSq ?_; refine aBk ?_; refine aRg ?_; intro _; obtain ⟨y83, w41, q42, h⟩ := ix_ok h; refine Exists.intro (cGAtom y83) (And.intro (map_at' w41) ?_); intro _; obtain ⟨z84, u43, h⟩ := ob1_ok h; refine cl_XDLModel rfl (A_r10_Add g x38.2.1 y83 u43) ?_; intro _; refine pr_XDLModel ?_; refine dr_XDLModel ?_; refine aRg ?_; intro _; refine dr_XDLModel ?_; refine ⟨(k82, z84, (IntKind.i64.wrap (x38.2.2 + 1))), h, ltS m39, ?_⟩; exact ca_XDLModel
                · refine aEx ?_; refine ⟨x38.2.1, (Option.some.inj h).symm, ?_⟩; exact ca_XDLModel
            · rintro v72 ho; have ho := ho.symm; subst ho; intro _; replace h := hK37; obtain ⟨o44, h, hK45⟩ := ob1_ok h; refine awp_cut (α := List GAtom) (fun v93 => mkS 99 [(3, .sl 2 (z11.map cGAtom)), (7, .sl 2 (v93.map cGAtom))] []) (fun v => o44 = v) ?_ ?_
              · refine aSR ?_; intro _; refine dr_XDLModel ?_; refine aBk ?_; refine awp_loop (α := Nat × (List GAtom) × Int) (fun x => mkS 99 [(1, .ptr 1 0 0 0), (3, .sl 2 (z11.map cGAtom)), (7, .sl 2 (x.2.1.map cGAtom)), (9, .c (.int .i64 x.2.2))] [(1, ⟨38, 2, true, [[.sl 2 (a0.Facts.map cGAtom), .sl 4 (a0.Rules.map cGRule)]]⟩)]) (fun x => M_l16_DatalogModel_L4 a0 g x.1 x.2.1 x.2.2 = some o44) (fun x => x.1) (g, v72, (-1)) h ?_ ?_
                · exact ca_XDLModel
                · intro x46 h; intro _; obtain ⟨k101, m47, h⟩ := succ_of (f := fun n => M_l16_DatalogModel_L4 a0 g n x46.2.1 x46.2.2) rfl h; replace h : M_l16_DatalogModel_L4 a0 g (k101 + 1) x46.2.1 x46.2.2 = some o44 := h; rw [M_l16_DatalogModel_L4] at h; refine aSq ?_; refine aSR ?_; intro _; refine dr_XDLModel ?_; refine aCd ?_; intro _; refine spl h (fun c48 h => ?_) (fun c48 h => ?_)
                  · refine aSk ?_; refine aBk ?_; refine aSR ?_; intro _; refine dr_XDLModel ?_; refine aRg ?_; intro _; obtain ⟨z102, u49, h⟩ := ob1_ok h; refine cl_XDLModel rfl (A_r16_Round g x46.2.1 a0.Rules u49) ?_; intro _; refine dr_XDLModel ?_; refine ⟨(k101, z102, ((x46.2.1.map cGAtom).length : Int)), h, ltS m47, ?_⟩; exact ca_XDLModel
                  · refine aEx ?_; refine ⟨x46.2.1, (Option.some.inj h).symm, ?_⟩; exact ca_XDLModel
              · rintro v93 ho; have ho := ho.symm; subst ho; intro _; replace h := hK45; refine aSR ?_; intro _; refine dr_XDLModel ?_; refine aRt ?_; intro _; obtain rfl := inj1 h; exact ca_XDLModel
    · replace h := erM_no h; refine aRg ?_; intro _; refine dr_XDLModel ?_; refine aCd ?_; intro _; refine litT ?_; refine aSR ?_; intro _; refine dr_XDLModel ?_; refine aRt ?_; intro _; obtain rfl := inj1 h; exact ca_XDLModel
end Go.Proofs.YtflgpccacloadaaDoor.Am
/- Plain law: DatalogModel. -/
namespace Go.Proofs.YtflgpccacloadaaDoor.Am
open Go.RowKit
theorem mod1 (S : List GAtom) (hS : StrA S) (hl : S.length ≤ 1000) (hf : ∀ a ∈ S, a.Args.length ≤ 8) : ∀ (k i : Nat), S.length + 1 ≤ i + k → 1 ≤ i → M_l16_DatalogModel_L1 GG S k (i : Int) = some (.inl ()) ∨ S.length < i := by
  intro k
  induction k with
  | zero => intro i h1 h2; exact .inr (by omega)
  | succ k ih =>
    intro i h1 h2
    rw [M_l16_DatalogModel_L1]
    by_cases h : i < S.length
    · have hy := List.getElem?_eq_getElem h
      have hz := List.getElem?_eq_getElem (show i - 1 < S.length by omega)
      rw [show decide ((i : Int) < ((S.map cGAtom).length : Int)) = true by simp; omega]
      have hw : IntKind.i64.wrap ((i : Int) - 1) = ((i - 1 : Nat) : Int) := by rw [wrap_eq (by omega) (by omega)]; omega
      have h8 := hf _ (List.getElem_mem h)
      have h9 := hf _ (List.getElem_mem (show i - 1 < S.length by omega))
      have hlt : atomC S[i - 1] S[i] < 0 := List.pairwise_iff_getElem.1 hS (i - 1) i (by omega) h (by omega)
      refine .inl ?_
      show ix S _ _ = _
      rw [hw, ix_at hz, ix_at hy, cmp_eq GG _ _ (by omega) (by omega) (by unfold GG; omega), ob1_some, decide_eq_false (by have := ((refC_sign S[i - 1] S[i]).1).2 hlt; omega), wrap_eq (by omega) (by omega)]
      rcases ih (i + 1) (by omega) (by omega) with q | q
      · exact q
      · omega
    · refine .inl ?_
      rw [show decide ((i : Int) < ((S.map cGAtom).length : Int)) = false by simp; omega]
      rfl
theorem mod2 (p : GProgram) (S : List GAtom) (hl : S.length ≤ 1000) (hf : ∀ a ∈ S, a.Args.length ≤ 8) (hp : Small p) (hm : ∀ a ∈ p.Facts, a ∈ S) : ∀ (k i : Nat), p.Facts.length + 1 ≤ i + k → i ≤ p.Facts.length → M_l16_DatalogModel_L2 p GG S k (i : Int) = some (.inl ()) := by
  have hfl := hp.facts
  intro k
  induction k with
  | zero => intro i h1 h2; omega
  | succ k ih =>
    intro i h1 h2
    rw [M_l16_DatalogModel_L2]
    by_cases h : i < p.Facts.length
    · have hy := List.getElem?_eq_getElem h
      have h8 := (hp.fargs _ (List.getElem_mem h)).1
      rw [show decide ((i : Int) < ((p.Facts.map cGAtom).length : Int)) = true by simp; omega]
      show ix p.Facts _ _ = _
      rw [ix_at hy, has10_eq GG S _ (by omega) (few8 (by decide) hf) (by omega) (by unfold GG; omega), ob1_some, decide_eq_true (hm _ (List.getElem_mem h)), wrap_eq (by omega) (by omega)]
      exact ih (i + 1) (by omega) (by omega)
    · rw [show decide ((i : Int) < ((p.Facts.map cGAtom).length : Int)) = false by simp; omega]
      rfl
theorem mod3 (p : GProgram) (hp : Small p) : ∀ (k i : Nat) (out : List GAtom), p.Facts.length + 1 ≤ i + k → i ≤ p.Facts.length → (∀ a ∈ out, a.Args.length ≤ 8) → out.length ≤ i →
    M_l16_DatalogModel_L3 p GG k out (i : Int) = some ((p.Facts.drop i).foldl addA out) := by
  have hfl := hp.facts
  intro k
  induction k with
  | zero => intro i out h1 h2; omega
  | succ k ih =>
    intro i out h1 h2 h3 h4
    rw [M_l16_DatalogModel_L3]
    by_cases h : i < p.Facts.length
    · have hy := List.getElem?_eq_getElem h
      have h8 := (hp.fargs _ (List.getElem_mem h)).1
      rw [show decide ((i : Int) < ((p.Facts.map cGAtom).length : Int)) = true by simp; omega]
      show ix p.Facts (i : Int) _ = _
      rw [ix_at hy, add_eq GG out p.Facts[i] (by omega) (few8 (by decide) h3) (by omega) (by unfold GG; omega), ob1_some, dropC hy, List.foldl_cons, wrap_eq (by omega) (by omega)]
      have hal := addA_len out p.Facts[i]
      refine ih (i + 1) (addA out p.Facts[i]) (by omega) (by omega) (fun a ha => ?_) (by omega)
      rcases (addA_mem _ _ _).1 ha with e | e
      · exact h3 a e
      · rw [e]; exact h8
    · rw [show decide ((i : Int) < ((p.Facts.map cGAtom).length : Int)) = false by simp; omega]
      rw [List.drop_of_length_le (by omega)]
      rfl
theorem mod4 {p : GProgram} (hp : Good p) : ∀ (k : Nat) (T : GSet) (n : Int), Inv p T → n ≠ (T.length : Int) → 190 ≤ k + T.length →
    M_l16_DatalogModel_L4 p GG k T n = some (runS p.Rules k T).1 := by
  intro k
  induction k with
  | zero => intro T n h1 h2 h3; have := inv_len hp h1; omega
  | succ k ih =>
    intro T n h1 h2 h3
    have h4 := inv_next hp h1
    have h5 := inv_len hp h4
    have h6 := inv_len hp h1
    have hge := next_ge (rules := p.Rules) h1.str
    rw [M_l16_DatalogModel_L4, show (n != ((T.map cGAtom).length : Int)) = true by simp; exact h2]
    show ob1 (M_r16_Round GG T p.Rules) _ = _
    rw [rround_eq (inv_wd hp h1) GG (by decide) (by decide), ob1_some, runS, if_neg (by omega), List.length_map]
    by_cases e : (nextS p.Rules T).length = T.length
    · rw [if_pos e, next_fix h1.str e]
      obtain ⟨k, rfl⟩ : ∃ k', k = k' + 1 := ⟨k - 1, by omega⟩
      rw [M_l16_DatalogModel_L4, show ((T.length : Int) != ((T.map cGAtom).length : Int)) = false by simp]
      rfl
    · rw [if_neg e]
      exact ih (nextS p.Rules T) (T.length : Int) h4 (by omega) (by omega)
theorem model_true (p : GProgram) (h : PrgOk p) : M_l16_DatalogModel GG p = some true := by
  obtain ⟨b, h1, h2⟩ := large_ok h
  unfold M_l16_DatalogModel
  rw [h1, ob1_some, awake16 GG (by decide)]
  cases b with
  | true => rfl
  | false =>
    have hp := h2 rfl
    show ob2 (M_datalog_Solve GG p.Facts p.Rules) _ = _
    rw [solve_good hp GG (by decide), ob2_some]
    cases hw : wrongE p.Facts p.Rules with
    | no e => rw [solve_wrong hp GG hw]; rfl
    | nil =>
      obtain ⟨S, g1, g2, g3, g4, g5⟩ := solve_der hp GG (by decide) hw
      have hf8 : ∀ a ∈ S, a.Args.length ≤ 8 := fun a ha => (g2.sml a ha).1
      obtain ⟨w1, w2⟩ := wrong_nil hp hw
      have hst := inv_start hp w1 w2
      have hrun : (runS p.Rules GG (setA p.Facts)).1 = S := by rw [← solve_nil hp GG hw, g1]
      have hfl := hp.sm.facts
      rw [g1]
      show ob1 (M_l16_DatalogModel_L1 GG S GG 1) _ = _
      have e1 : M_l16_DatalogModel_L1 GG S GG ((1 : Nat) : Int) = some (.inl ()) := by
        rcases mod1 S g2.str (by omega) hf8 GG 1 (by unfold GG; omega) (Nat.le_refl _) with q | q
        · exact q
        · obtain rfl : S = [] := List.eq_nil_of_length_eq_zero (by omega)
          rfl
      rw [show (1 : Int) = ((1 : Nat) : Int) from rfl, e1]
      show ob1 (M_l16_DatalogModel_L2 p GG S GG 0) _ = _
      rw [show (0 : Int) = ((0 : Nat) : Int) from rfl, mod2 p S (by omega) hf8 hp.sm (fun a ha => (g5 a).2 (.fact ha)) GG 0 (by unfold GG; omega) (Nat.zero_le _)]
      show ob1 (M_r16_Round GG S p.Rules) _ = _
      rw [rround_eq (inv_wd hp g2) GG (by decide) (by decide), ob1_some, g4, show (((S.map cGAtom).length : Int) != ((S.map cGAtom).length : Int)) = false by simp]
      show ob1 (M_l16_DatalogModel_L3 p GG GG [] 0) _ = _
      have e3 := mod3 p hp.sm GG 0 [] (by unfold GG; omega) (Nat.zero_le _) (fun a ha => by cases ha) (Nat.le_refl _)
      rw [List.drop_zero, fold_setA List.Pairwise.nil, List.nil_append] at e3
      rw [show (0 : Int) = ((0 : Nat) : Int) from rfl, e3, ob1_some, mod4 hp GG (setA p.Facts) (-((1 : Nat) : Int)) hst (by omega) (by unfold GG; omega), ob1_some, hrun]
      simp
end Go.Proofs.YtflgpccacloadaaDoor.Am
/- What the listed package-level variables hold, as cells, for the witness. -/
namespace Go.Proofs.YtflgpccacloadaaDoor
open Go.ChangeShapes Go.WideShapes Go.ChangeAt Go.RowKit
theorem own : ownKnob Tryd.prog.godebug = none := by kernel_rfl
theorem laidOut : laidOutB Tryd.prog = true := by kernel_rfl
def tab32 : Array Value := #[.int .u8 0, .int .u8 1, .int .u8 28, .int .u8 2, .int .u8 29, .int .u8 14, .int .u8 24, .int .u8 3, .int .u8 30, .int .u8 22, .int .u8 20, .int .u8 15, .int .u8 25, .int .u8 17, .int .u8 4, .int .u8 8, .int .u8 31, .int .u8 27, .int .u8 13, .int .u8 23, .int .u8 21, .int .u8 19, .int .u8 16, .int .u8 7, .int .u8 26, .int .u8 12, .int .u8 18, .int .u8 6, .int .u8 11, .int .u8 5, .int .u8 10, .int .u8 9]
def tab64 : Array Value := #[.int .u8 0, .int .u8 1, .int .u8 56, .int .u8 2, .int .u8 57, .int .u8 49, .int .u8 28, .int .u8 3, .int .u8 61, .int .u8 58, .int .u8 42, .int .u8 50, .int .u8 38, .int .u8 29, .int .u8 17, .int .u8 4, .int .u8 62, .int .u8 47, .int .u8 59, .int .u8 36, .int .u8 45, .int .u8 43, .int .u8 51, .int .u8 22, .int .u8 53, .int .u8 39, .int .u8 33, .int .u8 30, .int .u8 24, .int .u8 18, .int .u8 12, .int .u8 5, .int .u8 63, .int .u8 55, .int .u8 48, .int .u8 27, .int .u8 60, .int .u8 41, .int .u8 37, .int .u8 16, .int .u8 46, .int .u8 35, .int .u8 44, .int .u8 21, .int .u8 52, .int .u8 32, .int .u8 23, .int .u8 11, .int .u8 54, .int .u8 26, .int .u8 40, .int .u8 15, .int .u8 34, .int .u8 20, .int .u8 31, .int .u8 10, .int .u8 25, .int .u8 14, .int .u8 19, .int .u8 9, .int .u8 13, .int .u8 8, .int .u8 7, .int .u8 6]
def tabPow : Array Value := #[.int .u64 1, .int .u64 10, .int .u64 100, .int .u64 1000, .int .u64 10000, .int .u64 100000, .int .u64 1000000, .int .u64 10000000, .int .u64 100000000, .int .u64 1000000000, .int .u64 10000000000, .int .u64 100000000000, .int .u64 1000000000000, .int .u64 10000000000000, .int .u64 100000000000000, .int .u64 1000000000000000, .int .u64 10000000000000000, .int .u64 100000000000000000, .int .u64 1000000000000000000, .int .u64 10000000000000000000]

def putCells (cs : Array Value) : Obj → Obj
  | .cells _ t frozen => .cells cs t frozen
  | o => o
/-- A world for the witnesses: the settled one, the tables holding what their initialisers lay. -/
noncomputable def laidWorld (os : Os) : World :=
  { World.holding Tryd.prog os ⟨#[], #[], []⟩ with heap := (((World.holding Tryd.prog os ⟨#[], #[], []⟩).heap.modify 0 (putCells tabPow)).modify 1 (putCells tab32)).modify 2 (putCells tab64) }
end Go.Proofs.YtflgpccacloadaaDoor
/- stratagemlaw16.DatalogModel returns true for every input. No condition beyond the card's own. -/
namespace Go.Proofs.YtflgpccacloadaaDoor.rowModel
open Go.ChangeShapes Go.WideShapes Go.ChangeAt Go.RowKit Am

theorem table {W : World} (h : laidMetH Tryd.prog Rows.datalogModelRow.laid W) : TabOk W := by
  obtain ⟨ps, ⟨_, _, _, _, _, _, _, _, _, _, ⟨_, _, _, _, _, _, _, _, _, _, hr, _⟩, _⟩, _⟩ := h
  obtain ⟨g', t', cs, fuel, p, q, hg', ht', hvar, hd, _, _⟩ := hr
  obtain rfl := Option.some.inj (gPow.symm.trans hg')
  obtain rfl := Option.some.inj ((show (Tryd.prog.globals[0]?).map (·.type) = some 152 by kernel_rfl).symm.trans ht')
  unfold TabOk Lib.TabIs
  rw [hvar, ← Lib.cells_of_tab (zs := Lib.pow10Tab) Tryd.underlying152 Tryd.underlying134 (by kernel_rfl) (by kernel_rfl) hd]
set_option maxRecDepth 100000 in
theorem contract (H : Type) (enc : TypeId × Value → H) (W : World) (base : Nat) (args : Array Value) (ds gs : List (DataW H)) (before : List MemPlace)
    (hval : ∀ (j : Nat) t v, Tryd.f5.params[j]? = some t → args[j]? = some v → Value.okWide Tryd.prog W .any base t v)
    (hW : DataW.Whole enc Tryd.prog Tryd.f5.params.toList Rows.datalogModelSpec.vars false W args.toList ds gs before) (hL : laidMetH Tryd.prog Rows.datalogModelRow.laid W)
    (hsz : (DataW.weightsEach Tryd.prog (Tryd.f5.params.toList ++ (OpenSpec.ofChange Rows.datalogModelSpec).bare.plain.varTypes Tryd.prog) (ds ++ gs)).all (· ≤ reachBytes) = true) :
    Calls Tryd.prog 5 args W fun e W' => ∃ v, e = .returned v ∧ Rows.datalogModelSpec.post enc Tryd.prog Tryd.f5 false true false false W args v W' := by
  have hW' := hW
  obtain ⟨p, q, hA0, hV, rfl, hfz, hnd⟩ := hW
  have hA : DataW.TrodAll enc Tryd.prog W 0 (fun _ => true) true Tryd.f5.params.toList args.toList ds p := hA0
  rw [Tryd.params5] at hA hval
  obtain ⟨v0, vs0, d0, ds0, p0, q0, hargs, rfl, rfl, h0, r0⟩ := trodAll_cons hA
  obtain ⟨rfl, rfl, rfl⟩ := trodAll_nil r0
  obtain rfl : args = #[v0] := Array.ext' hargs
  obtain ⟨rfl, rfl⟩ := trodVars_none hV
  simp only [List.append_nil] at hW' hA0 hsz
  rw [Tryd.params5] at hsz
  obtain ⟨p, hb, _, k0⟩ := arg_structB Tryd.underlying38 (hval 0 38 v0 rfl rfl) zProg h0 (sized_arg hsz (j := 0) rfl rfl)
  refine (law_of (A_l16_DatalogModel GG p (model_true p (prgOk_of hb.1 hb.2))) ⟨table hL, trivial⟩ rfl (fun j x v hx hv => ?_)).mono fun e W' ⟨he, hb⟩ => ?_
  · match j, hx, hv with
    | 0, hx, hv => simp at hx hv; subst hx hv; exact k0
    | j + 1, hx, hv => simp at hx
  · subst he
    exact ⟨_, rfl, law_post laidOut rfl (by kernel_rfl) Tryd.underlying4 (by kernel_rfl) hW' hA0 rfl rfl rfl hb⟩
theorem laid_met (os : Os) : laidMet Tryd.prog Rows.datalogModelRow.laid ((laidWorld os).forCall (fun _ _ => 0) ⟨#[], #[.agg #[.slice none 0 0, .slice none 0 0]], []⟩).memory :=
  laidMet_of_run' 8 (by kernel_rfl) (by kernel_rfl)
theorem reads (os : Os) {H : Type} (enc : TypeId × Value → H) : ∃ places, DataW.whole enc Tryd.prog ((laidWorld os).forCall (fun _ _ => 0) ⟨#[], #[.agg #[.slice none 0 0, .slice none 0 0]], []⟩).memory Tryd.f5.params.toList Rows.datalogModelSpec.vars false (#[.agg #[.slice none 0 0, .slice none 0 0]] : Array Value).toList 8 = some ([.agg [.nil, .nil]], [], places) :=
  ⟨[], by kernel_rfl⟩

set_option maxRecDepth 100000 in
theorem lifted (os : Os) (started : os.Started) (H : Type) (enc : TypeId × Value → H) (F : Stop.Interp) :
    ReturnsInHanded {} Tryd.checked os 5 .any ((OpenSpec.ofChange Rows.datalogModelSpec).preRow enc Tryd.prog Tryd.f5 Rows.datalogModelRow.domain false Rows.datalogModelRow.laid) (((OpenSpec.ofChange Rows.datalogModelSpec).at F).post enc Tryd.prog Tryd.f5 false true false false) := by
  obtain ⟨places, hx⟩ := reads os enc
  refine returnsInHanded_of_row (C := Tryd.checked) (s := OpenSpec.ofChange Rows.datalogModelSpec) own started (by kernel_rfl) Tryd.func5
    (witness_row_at (enc := enc) (C := Tryd.checked) false (laidWorld os) #[.agg #[.slice none 0 0, .slice none 0 0]] rfl (by kernel_rfl) (by kernel_rfl) (by kernel_rfl)
      (OpenSpec.preRow_of_cond 8 hx (by kernel_rfl) (fun k hk => by cases hk) (by kernel_rfl) (laid_met os))) ?_
  intro W base args ds gs before hval hW _ _ hsz hL _ _
  exact contract H enc W base args ds gs before hval hW hL hsz

theorem said : Rows.DatalogModelSaid :=
  OpenClaim.holds_of_cond 5 Tryd.f5 rfl rfl rfl rfl rfl rfl rfl ⟨rfl, rfl, rfl, rfl, rfl⟩ rfl rfl rfl rfl rfl (by kernel_rfl) Tryd.func5 (by kernel_rfl)
    (of_decide_eq_true (by kernel_rfl)) (by unfold Func.isWrapper; first | (rw [if_pos (by decide +kernel)]; kernel_rfl) | (rw [if_neg (by decide +kernel)]; exact ⟨rfl, rfl⟩))
    (fun os started H enc _ F => by rw [OpenClaim.pre_eq_preRow]; exact lifted os started H enc F)

theorem plain (f : FuncId) (fn : Func) (hf : Tryd.pinned.checked.prog.funcNamed Rows.datalogModelRow.func = some f) (hfn : Tryd.pinned.checked.prog.funcs[f]? = some fn) :
    true = Tryd.pinned.checked.prog.looks [] ∧ ∀ (j : Nat) t, fn.params[j]? = some t → Tryd.pinned.checked.prog.wantsStandIn t = false := by
  obtain rfl : f = 5 := Option.some.inj ((show Tryd.prog.funcNamed Rows.datalogModelRow.func = some 5 by kernel_rfl).symm.trans hf) |>.symm
  obtain rfl : fn = Tryd.f5 := (Option.some.inj (Tryd.func5.symm.trans hfn)).symm
  refine ⟨by kernel_rfl, fun j t ht => ?_⟩
  have hall : Tryd.f5.params.toList.all (fun t => !Tryd.prog.wantsStandIn t) = true := by kernel_rfl
  have := List.all_eq_true.1 hall t (by simpa using Array.mem_of_getElem? ht)
  have h2 : Tryd.prog.wantsStandIn t = false := by simpa using this
  exact h2

/-- THE CARD: stratagemlaw16's statement holds. -/
theorem card : Rows.DatalogModelCardSaid :=
  Claim7.holds_tied_plain_at .later [] _ _ _ _ said (fun _ h => by cases h) (by kernel_rfl) (fun _ h => by cases h) datalogModel_row_tie rfl ⟨rfl, rfl⟩ (by kernel_rfl) rfl plain (by kernel_rfl)
end Go.Proofs.YtflgpccacloadaaDoor.rowModel
