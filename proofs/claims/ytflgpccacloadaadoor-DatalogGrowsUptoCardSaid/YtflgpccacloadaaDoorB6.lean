/- stratagemlaw16.DatalogGrows returns true for every input of bulk at most 1048576. No condition beyond the card's own. -/
import Derived.Test.YtflgpccacloadaaDoorB5
import Derived.Test.YtflgpccacloadaaDoorCards
import Derived.Test.YtflgpccacloadaaDoorTie
import Derived.Test.YtflgpccacloadaaDoorB1
import Derived.WalkKit
import Derived.ProofKit
import Derived.OpenShut
import Derived.Deep.DeepHandedRow
import Derived.Lib.LaidTab
import Derived.Lib.ItoaNum
set_option linter.unusedVariables false
set_option linter.unusedSectionVars false
set_option linter.unusedSimpArgs false
/- Plain law: DatalogGrows. -/
namespace Go.Proofs.YtflgpccacloadaaDoor.Am
open Go.RowKit
theorem addC_nodup : ∀ (l out : List ByteArray), out.Nodup → (l.foldl addC out).Nodup
  | [], out, h => h
  | s :: r, out, h => by
    rw [List.foldl_cons]
    refine addC_nodup r _ ?_
    unfold addC
    split
    · exact h
    · split
      · exact h
      · rename_i hn _
        refine List.nodup_append.2 ⟨h, by simp, fun x hx y hy e => ?_⟩
        simp at hy
        exact hn (by rw [← hy, ← e]; exact hx)
theorem consts_le {l l' : List GAtom} (h : ∀ a ∈ l, a ∈ l') : (consts l).length ≤ (consts l').length := by
  refine nodup_sub (addC_nodup _ [] List.nodup_nil) (fun x hx => ?_)
  rcases (addC_mem _ _ _).1 hx with q | ⟨q, hv⟩
  · cases q
  · obtain ⟨a, ha, hx⟩ := List.mem_flatMap.1 q
    exact (addC_mem _ _ _).2 (.inr ⟨List.mem_flatMap.2 ⟨a, h a ha, hx⟩, hv⟩)
theorem sum_le {α : Type} {f g : α → Nat} (h : ∀ x, f x ≤ g x) : ∀ l : List α, (l.map f).sum ≤ (l.map g).sum
  | [] => Nat.le_refl _
  | x :: r => by
    rw [List.map_cons, List.map_cons, List.sum_cons, List.sum_cons]
    exact Nat.add_le_add (h x) (sum_le h r)
theorem small_part {p q : GProgram} (hq : Small q) {F : List GAtom} {R : List GRule} (h1 : q.Facts = p.Facts ++ F) (h2 : q.Rules = p.Rules ++ R) : Small p := by
  have hall : ∀ a ∈ allA p, a ∈ allA q := by
    intro a ha
    unfold allA at ha ⊢
    rw [h1, h2]
    rcases List.mem_append.1 ha with e | e
    · exact List.mem_append_left _ (List.mem_append_left _ e)
    · rw [List.flatMap_append]
      exact List.mem_append_right _ (List.mem_append_left _ e)
  have hc := consts_le hall
  obtain ⟨s1, s2, s3, s4, s5, s6⟩ := hq
  rw [h1] at s1 s3
  rw [h2] at s2 s4 s5 s6
  rw [List.length_append] at s1 s2
  refine ⟨by omega, by omega, fun a ha => s3 a (List.mem_append_left _ ha), fun r hr => s4 r (List.mem_append_left _ hr), fun r hr => ?_, ?_⟩
  · exact Nat.lt_of_le_of_lt (Nat.pow_le_pow_left hc _) (s5 r (List.mem_append_left _ hr))
  · rw [List.map_append, List.sum_append] at s6
    have := sum_le (f := fun r : GRule => (consts (allA p)).length ^ min r.Head.Args.length (vars r.Body).length) (g := fun r : GRule => (consts (allA q)).length ^ min r.Head.Args.length (vars r.Body).length) (fun r => Nat.pow_le_pow_left hc _) p.Rules
    omega
theorem der_mono {F F' : List GAtom} {R R' : List GRule} (h1 : ∀ a ∈ F, a ∈ F') (h2 : ∀ r ∈ R, r ∈ R') {z : GAtom} (h : Der F R z) : Der F' R' z := by
  induction h with
  | fact h => exact .fact (h1 _ h)
  | rule hr _ hu ih => exact .rule (h2 _ hr) ih hu
theorem grw1 (g : Nat) (hg0 : 1000000000000 < g) (f : GAtom) (A B : List GAtom) (hA : A.length ≤ 1000) (hB : B.length ≤ 1000) (hf : ∀ a ∈ B, a.Args.length ≤ 8) (hA8 : ∀ a ∈ A, a.Args.length ≤ 8) (hf8 : f.Args.length ≤ 8) (hm : ∀ a ∈ A, a ∈ B) (hfm : f ∈ B) : ∀ (k i : Nat), A.length + 1 ≤ i + k → i ≤ A.length → M_l16_DatalogGrows_L1 f g A B k (i : Int) = some true := by
  intro k
  induction k with
  | zero => intro i h1 h2; omega
  | succ k ih =>
    intro i h1 h2
    rw [M_l16_DatalogGrows_L1]
    have hg : B.length < g := by omega
    by_cases h : i < A.length
    · have hy := List.getElem?_eq_getElem h
      have h8 := hA8 _ (List.getElem_mem h)
      rw [show decide ((i : Int) < ((A.map cGAtom).length : Int)) = true by simp; omega]
      show ix A _ _ = _
      rw [ix_at hy, has10_eq g B _ (by omega) (few8 (by omega) hf) (by omega) hg, ob1_some, decide_eq_true (hm _ (List.getElem_mem h)), wrap_eq (by omega) (by omega)]
      exact ih (i + 1) (by omega) (by omega)
    · rw [show decide ((i : Int) < ((A.map cGAtom).length : Int)) = false by simp; omega]
      show ob1 (M_r10_Has g B f) _ = _
      rw [has10_eq g B _ (by omega) (few8 (by omega) hf) (by omega) hg, ob1_some, decide_eq_true hfm]
theorem grows_true (p : GProgram) (f : GAtom) (r : GRule) (h : PrgOk ⟨p.Facts ++ [f], p.Rules ++ [r]⟩) (hfl : p.Facts.length ≤ 1048576) (hrl : p.Rules.length ≤ 1048576) : M_l16_DatalogGrows GG p f r = some true := by
  obtain ⟨b, h1, h2⟩ := large_ok h
  obtain ⟨g, hgg⟩ : ∃ g, g = GG := ⟨GG, rfl⟩
  have hg1 : 1000000000000 < g := by rw [hgg]; decide
  rw [← hgg] at h1 ⊢
  clear hgg
  unfold M_l16_DatalogGrows
  refine grd_mk (by omega) (grd_mk (by omega) (grd_mk (by omega) (grd_mk (by omega) ?_)))
  rw [show ∀ x : Option (Unit ⊕ Bool), grd (p.Facts.length + 1 ≤ 140737488355328) (grd (p.Rules.length + 1 ≤ 140737488355328) x) = x from fun x => grd_mk (by omega) (grd_mk (by omega) rfl)]
  rw [h1, ob1_some, awake16 g (by omega)]
  cases b with
  | true => rfl
  | false =>
    have hq := h2 rfl
    have hp : Good p := ⟨small_part hq.sm rfl rfl, fun a ha => hq.hx a (by
      rcases List.mem_append.1 ha with e | e
      · exact List.mem_append_left _ (List.mem_append_left _ e)
      · refine List.mem_append_right _ ?_
        show a ∈ (p.Rules ++ [r]).flatMap rAtoms
        rw [List.flatMap_append]
        exact List.mem_append_left _ e)⟩
    show ob2 (M_datalog_Solve g p.Facts p.Rules) _ = _
    rw [solve_good hp g (by omega), ob2_some]
    refine grd_mk (by omega) (grd_mk (by omega) ?_)
    have hsq := solve_good hq g (by omega)
    simp only [] at hsq
    rw [hsq, ob2_some]
    have hwr : wrongE p.Facts p.Rules ≠ .nil → wrongE (p.Facts ++ [f]) (p.Rules ++ [r]) ≠ .nil := by
      intro hn hw
      have := wrong_nil hq hw
      refine hn ?_
      unfold wrongE
      rw [firstE_of (fun x hx => firstE_all this.1 x (List.mem_append_left _ hx))]
      have h3 := this.2
      simp only [List.any_append, Bool.or_eq_false_iff] at h3
      simp only []
      rw [h3.1, if_neg (by decide)]
    cases hw : wrongE p.Facts p.Rules with
    | no e =>
      rw [solve_wrong hp g hw]
      cases hw2 : wrongE (p.Facts ++ [f]) (p.Rules ++ [r]) with
      | nil => exact absurd hw2 (hwr (by rw [hw]; simp))
      | no e2 =>
        have := solve_wrong hq g hw2
        simp only [] at this
        rw [this]; rfl
    | nil =>
      obtain ⟨A, a1, a2, a3, _, a5⟩ := solve_der hp g (by omega) hw
      rw [a1]
      cases hw2 : wrongE (p.Facts ++ [f]) (p.Rules ++ [r]) with
      | no e2 =>
        have := solve_wrong hq g hw2
        simp only [] at this
        rw [this]
        show ob1 (M_r16_Wrong g (p.Facts ++ [f]) (p.Rules ++ [r])) _ = _
        have hqs := hq.sm
        have hw3 := wrong_eq g (p.Facts ++ [f]) (p.Rules ++ [r]) (by omega) (by have := hqs.facts; simp only [] at this; omega) (fun a ha => by have := (hqs.fargs a ha).1; omega) (by have := hqs.rules; simp only [] at this; omega) (fun x hx => by obtain ⟨q1, q2, q3, q4, q5⟩ := ckOk_small hqs hx; exact ⟨q1, by omega, by omega, by omega, by omega⟩)
        rw [hw3, ob1_some, hw2]
        have he : ¬ e2 = 0 := by
          intro q
          subst q
          unfold wrongE at hw2
          cases hf : firstE (p.Rules ++ [r]) with
          | no e' => rw [hf] at hw2; cases hw2; exact firstE_ne0 _ hf
          | nil => rw [hf] at hw2; simp only [] at hw2; split at hw2 <;> cases hw2
        rw [show (codeE (Er.no e2) != 0) = true by simp [codeE]; exact he]
      | nil =>
        obtain ⟨B, b1, b2, b3, _, b5⟩ := solve_der hq g (by omega) hw2
        simp only [] at b1
        rw [b1]
        have hL := grw1 g hg1 f A B (by omega) (by omega) (fun a ha => (b2.sml a ha).1) (fun a ha => (a2.sml a ha).1) (hq.sm.fargs f (List.mem_append_right _ (List.mem_singleton.2 rfl))).1
          (fun a ha => (b5 a).2 (der_mono (fun x hx => List.mem_append_left _ hx) (fun x hx => List.mem_append_left _ hx) ((a5 a).1 ha)))
          ((b5 f).2 (.fact (List.mem_append_right _ (List.mem_singleton.2 rfl)))) g 0 (by omega) (Nat.zero_le _)
        rw [show ((0 : Nat) : Int) = 0 from rfl] at hL
        exact hL
end Go.Proofs.YtflgpccacloadaaDoor.Am
/- What the listed package-level variables hold, as cells, for the witness. -/
namespace Go.Proofs.YtflgpccacloadaaDoor
open Go.ChangeShapes Go.WideShapes Go.ChangeAt Go.RowKit
theorem own : ownKnob Tryd.prog.godebug = none := by kernel_rfl
theorem laidOut : laidOutB Tryd.prog = true := by kernel_rfl
def tab32 : Array Value := #[.int .u8 0, .int .u8 1, .int .u8 28, .int .u8 2, .int .u8 29, .int .u8 14, .int .u8 24, .int .u8 3, .int .u8 30, .int .u8 22, .int .u8 20, .int .u8 15, .int .u8 25, .int .u8 17, .int .u8 4, .int .u8 8, .int .u8 31, .int .u8 27, .int .u8 13, .int .u8 23, .int .u8 21, .int .u8 19, .int .u8 16, .int .u8 7, .int .u8 26, .int .u8 12, .int .u8 18, .int .u8 6, .int .u8 11, .int .u8 5, .int .u8 10, .int .u8 9]
def tab64 : Array Value := #[.int .u8 0, .int .u8 1, .int .u8 56, .int .u8 2, .int .u8 57, .int .u8 49, .int .u8 28, .int .u8 3, .int .u8 61, .int .u8 58, .int .u8 42, .int .u8 50, .int .u8 38, .int .u8 29, .int .u8 17, .int .u8 4, .int .u8 62, .int .u8 47, .int .u8 59, .int .u8 36, .int .u8 45, .int .u8 43, .int .u8 51, .int .u8 22, .int .u8 53, .int .u8 39, .int .u8 33, .int .u8 30, .int .u8 24, .int .u8 18, .int .u8 12, .int .u8 5, .int .u8 63, .int .u8 55, .int .u8 48, .int .u8 27, .int .u8 60, .int .u8 41, .int .u8 37, .int .u8 16, .int .u8 46, .int .u8 35, .int .u8 44, .int .u8 21, .int .u8 52, .int .u8 32, .int .u8 23, .int .u8 11, .int .u8 54, .int .u8 26, .int .u8 40, .int .u8 15, .int .u8 34, .int .u8 20, .int .u8 31, .int .u8 10, .int .u8 25, .int .u8 14, .int .u8 19, .int .u8 9, .int .u8 13, .int .u8 8, .int .u8 7, .int .u8 6]
def tabPow : Array Value := #[.int .u64 1, .int .u64 10, .int .u64 100, .int .u64 1000, .int .u64 10000, .int .u64 100000, .int .u64 1000000, .int .u64 10000000, .int .u64 100000000, .int .u64 1000000000, .int .u64 10000000000, .int .u64 100000000000, .int .u64 1000000000000, .int .u64 10000000000000, .int .u64 100000000000000, .int .u64 1000000000000000, .int .u64 10000000000000000, .int .u64 100000000000000000, .int .u64 1000000000000000000, .int .u64 10000000000000000000]

def putCells (cs : Array Value) : Obj → Obj
  | .cells _ t frozen => .cells cs t frozen
  | o => o
/-- A world for the witnesses: the settled one, the tables holding what their initialisers lay. -/
noncomputable def laidWorld (os : Os) : World :=
  { World.holding Tryd.prog os ⟨#[], #[], []⟩ with heap := (((World.holding Tryd.prog os ⟨#[], #[], []⟩).heap.modify 0 (putCells tabPow)).modify 1 (putCells tab32)).modify 2 (putCells tab64) }
end Go.Proofs.YtflgpccacloadaaDoor
/- stratagemlaw16.DatalogGrows returns true for every input of bulk at most 1048576. No condition beyond the card's own. -/
namespace Go.Proofs.YtflgpccacloadaaDoor.rowGrows
open Go.ChangeShapes Go.WideShapes Go.ChangeAt Go.RowKit Am
theorem wRs_len : ∀ l : List GRule, l.length ≤ wRs l
  | [] => Nat.zero_le _
  | r :: q => by
    have h1 := wRs_len q
    have h2 : 1 ≤ wR r := by unfold wR wA; omega
    unfold wRs at h1 ⊢
    simp only [List.map_cons, List.sum_cons, List.length_cons]
    omega
theorem prgG {p : GProgram} {f : GAtom} {r : GRule} (h1 : zAs p.Facts) (h2 : zRs p.Rules) (h3 : zA f) (h4 : zR r) (hl : p.Facts.length ≤ 1048576) (hr : p.Rules.length ≤ 1048576) : PrgOk ⟨p.Facts ++ [f], p.Rules ++ [r]⟩ :=
  prgOk_of ⟨by simp; omega, fun a ha => by
    rcases List.mem_append.1 ha with e | e
    · exact h1.2 a e
    · rw [List.mem_singleton.1 e]; exact h3⟩ ⟨by simp; omega, fun a ha => by
    rcases List.mem_append.1 ha with e | e
    · exact h2.2 a e
    · rw [List.mem_singleton.1 e]; exact h4⟩

theorem table {W : World} (h : laidMetH Tryd.prog Rows.datalogGrowsUptoRow.laid W) : TabOk W := by
  obtain ⟨ps, ⟨_, _, _, _, _, _, _, _, _, _, ⟨_, _, _, _, _, _, _, _, _, _, hr, _⟩, _⟩, _⟩ := h
  obtain ⟨g', t', cs, fuel, p, q, hg', ht', hvar, hd, _, _⟩ := hr
  obtain rfl := Option.some.inj (gPow.symm.trans hg')
  obtain rfl := Option.some.inj ((show (Tryd.prog.globals[0]?).map (·.type) = some 152 by kernel_rfl).symm.trans ht')
  unfold TabOk Lib.TabIs
  rw [hvar, ← Lib.cells_of_tab (zs := Lib.pow10Tab) Tryd.underlying152 Tryd.underlying134 (by kernel_rfl) (by kernel_rfl) hd]
set_option maxRecDepth 100000 in
theorem contract (H : Type) (enc : TypeId × Value → H) (W : World) (base : Nat) (args : Array Value) (ds gs : List (DataW H)) (before : List MemPlace)
    (hval : ∀ (j : Nat) t v, Tryd.f6.params[j]? = some t → args[j]? = some v → Value.okWide Tryd.prog W .any base t v)
    (hW : DataW.Whole enc Tryd.prog Tryd.f6.params.toList Rows.datalogGrowsSpec.vars false W args.toList ds gs before) (hL : laidMetH Tryd.prog Rows.datalogGrowsUptoRow.laid W)
    (hsz : (DataW.weightsEach Tryd.prog (Tryd.f6.params.toList ++ (OpenSpec.ofChange Rows.datalogGrowsSpec).bare.plain.varTypes Tryd.prog) (ds ++ gs)).all (· ≤ reachBytes) = true) (hsh : W.ShapedOpen Tryd.prog) (hk : Rows.uptoSmall H (ds ++ gs) = true) :
    Calls Tryd.prog 6 args W fun e W' => ∃ v, e = .returned v ∧ Rows.datalogGrowsSpec.post enc Tryd.prog Tryd.f6 false true false false W args v W' := by
  have hW' := hW
  obtain ⟨p, q, hA0, hV, rfl, hfz, hnd⟩ := hW
  have hA : DataW.TrodAll enc Tryd.prog W 0 (fun _ => true) true Tryd.f6.params.toList args.toList ds p := hA0
  rw [Tryd.params6] at hA hval
  obtain ⟨v0, vs0, d0, ds0, p0, q0, hargs, rfl, rfl, h0, r0⟩ := trodAll_cons hA
  obtain ⟨v1, vs1, d1, ds1, p1, q1, rfl, rfl, rfl, h1, r1⟩ := trodAll_cons r0
  obtain ⟨v2, vs2, d2, ds2, p2, q2, rfl, rfl, rfl, h2, r2⟩ := trodAll_cons r1
  obtain ⟨rfl, rfl, rfl⟩ := trodAll_nil r2
  obtain rfl : args = #[v0, v1, v2] := Array.ext' hargs
  obtain ⟨rfl, rfl⟩ := trodVars_none hV
  simp only [List.append_nil] at hW' hA0 hsz hk
  rw [Tryd.params6] at hsz
  obtain ⟨p, hb0, w0, k0⟩ := arg_structB Tryd.underlying38 (hval 0 38 v0 rfl rfl) zProg h0 (sized_arg hsz (j := 0) rfl rfl)
  obtain ⟨f, hb1, w1, k1⟩ := arg_structB Tryd.underlying24 (hval 1 24 v1 rfl rfl) zAtom h1 (sized_arg hsz (j := 1) rfl rfl)
  obtain ⟨r, hb2, w2, k2⟩ := arg_structB Tryd.underlying28 (hval 2 28 v2 rfl rfl) zRule h2 (sized_arg hsz (j := 2) rfl rfl)
  have hl : p.Facts.length ≤ 1048576 ∧ p.Rules.length ≤ 1048576 := by
    have e1 := of_decide_eq_true hk
    simp only [Rows.uptoBulkAll] at e1
    have e2 := wAs_args p.Facts
    have e3 := wRs_len p.Rules
    omega
  refine (law_of (A_l16_DatalogGrows GG p f r (grows_true p f r (prgG hb0.1 hb0.2 hb1 hb2 hl.1 hl.2) hl.1 hl.2)) ⟨table hL, trivial⟩ rfl (fun j x v hx hv => ?_)).mono fun e W' ⟨he, hb⟩ => ?_
  · match j, hx, hv with
    | 0, hx, hv => simp at hx hv; subst hx hv; exact k0
    | 1, hx, hv => simp at hx hv; subst hx hv; exact k1
    | 2, hx, hv => simp at hx hv; subst hx hv; exact k2
    | j + 3, hx, hv => simp at hx
  · subst he
    exact ⟨_, rfl, law_post laidOut rfl (by kernel_rfl) Tryd.underlying4 (by kernel_rfl) hW' hA0 rfl rfl rfl hb⟩
theorem laid_met (os : Os) : laidMet Tryd.prog Rows.datalogGrowsUptoRow.laid ((laidWorld os).forCall (fun _ _ => 0) ⟨#[], #[.agg #[.slice none 0 0, .slice none 0 0], .agg #[.string ⟨#[]⟩, .slice none 0 0], .agg #[.string ⟨#[]⟩, .slice none 0 0, .slice none 0 0, .slice none 0 0]], []⟩).memory :=
  laidMet_of_run' 8 (by kernel_rfl) (by kernel_rfl)
theorem reads (os : Os) {H : Type} (enc : TypeId × Value → H) : ∃ places, DataW.whole enc Tryd.prog ((laidWorld os).forCall (fun _ _ => 0) ⟨#[], #[.agg #[.slice none 0 0, .slice none 0 0], .agg #[.string ⟨#[]⟩, .slice none 0 0], .agg #[.string ⟨#[]⟩, .slice none 0 0, .slice none 0 0, .slice none 0 0]], []⟩).memory Tryd.f6.params.toList Rows.datalogGrowsSpec.vars false (#[.agg #[.slice none 0 0, .slice none 0 0], .agg #[.string ⟨#[]⟩, .slice none 0 0], .agg #[.string ⟨#[]⟩, .slice none 0 0, .slice none 0 0, .slice none 0 0]] : Array Value).toList 8 = some ([.agg [.nil, .nil], .agg [.lit (.string []), .nil], .agg [.agg [.lit (.string []), .nil], .nil, .nil]], [], places) :=
  ⟨[], by kernel_rfl⟩

set_option maxRecDepth 100000 in
theorem lifted (os : Os) (started : os.Started) (H : Type) (enc : TypeId × Value → H) (F : Stop.Interp) :
    ReturnsInHanded {} Tryd.checked os 6 .any ((Rows.OpenSpec.upto Rows.datalogGrowsSpec).preRow enc Tryd.prog Tryd.f6 Rows.datalogGrowsUptoRow.domain false Rows.datalogGrowsUptoRow.laid) (((Rows.OpenSpec.upto Rows.datalogGrowsSpec).at F).post enc Tryd.prog Tryd.f6 false true false false) := by
  obtain ⟨places, hx⟩ := reads os enc
  refine returnsInHanded_of_row (C := Tryd.checked) (s := Rows.OpenSpec.upto Rows.datalogGrowsSpec) own started (by kernel_rfl) Tryd.func6
    (witness_row_at (enc := enc) (C := Tryd.checked) false (laidWorld os) #[.agg #[.slice none 0 0, .slice none 0 0], .agg #[.string ⟨#[]⟩, .slice none 0 0], .agg #[.string ⟨#[]⟩, .slice none 0 0, .slice none 0 0, .slice none 0 0]] rfl (by kernel_rfl) (by kernel_rfl) (by kernel_rfl)
      (OpenSpec.preRow_of_cond 8 hx (by kernel_rfl) (fun k hk => by cases hk; kernel_rfl) (by kernel_rfl) (laid_met os))) ?_
  intro W base args ds gs before hval hW _ hcond hsz hL hsh _
  exact contract H enc W base args ds gs before hval hW hL hsz hsh (hcond _ rfl)

theorem said : Rows.DatalogGrowsUptoSaid :=
  OpenClaim.holds_of_cond 6 Tryd.f6 rfl rfl rfl rfl rfl rfl rfl ⟨rfl, rfl, rfl, rfl, rfl⟩ rfl rfl rfl rfl rfl (by kernel_rfl) Tryd.func6 (by kernel_rfl)
    (of_decide_eq_true (by kernel_rfl)) (by unfold Func.isWrapper; first | (rw [if_pos (by decide +kernel)]; kernel_rfl) | (rw [if_neg (by decide +kernel)]; exact ⟨rfl, rfl⟩))
    (fun os started H enc _ F => by rw [OpenClaim.pre_eq_preRow]; exact lifted os started H enc F)

theorem plain (f : FuncId) (fn : Func) (hf : Tryd.pinned.checked.prog.funcNamed Rows.datalogGrowsUptoRow.func = some f) (hfn : Tryd.pinned.checked.prog.funcs[f]? = some fn) :
    true = Tryd.pinned.checked.prog.looks [] ∧ ∀ (j : Nat) t, fn.params[j]? = some t → Tryd.pinned.checked.prog.wantsStandIn t = false := by
  obtain rfl : f = 6 := Option.some.inj ((show Tryd.prog.funcNamed Rows.datalogGrowsUptoRow.func = some 6 by kernel_rfl).symm.trans hf) |>.symm
  obtain rfl : fn = Tryd.f6 := (Option.some.inj (Tryd.func6.symm.trans hfn)).symm
  refine ⟨by kernel_rfl, fun j t ht => ?_⟩
  have hall : Tryd.f6.params.toList.all (fun t => !Tryd.prog.wantsStandIn t) = true := by kernel_rfl
  have := List.all_eq_true.1 hall t (by simpa using Array.mem_of_getElem? ht)
  have h2 : Tryd.prog.wantsStandIn t = false := by simpa using this
  exact h2

/-- THE CARD: stratagemlaw16's statement holds. -/
theorem card : Rows.DatalogGrowsUptoCardSaid :=
  Claim7.holds_tied_plain_at .later [] _ _ _ _ said (fun _ h => by cases h) (by kernel_rfl) (fun _ h => by cases h) datalogGrowsUpto_row_tie rfl ⟨rfl, rfl⟩ (by kernel_rfl) rfl plain (by kernel_rfl)
end Go.Proofs.YtflgpccacloadaaDoor.rowGrows
