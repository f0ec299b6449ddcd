/- stratagemlaw33.MutexErrors returns true for every input. No condition beyond the row's own. -/
import Derived.Test.YtinnphmnhmdcgaaGreatB5
import Derived.Test.YtinnphmnhmdcgaaGreatB3
import Derived.Test.YtinnphmnhmdcgaaGreatB2
import Derived.Test.YtinnphmnhmdcgaaGreatB4
import Derived.Test.YtinnphmnhmdcgaaGreatB1
import Derived.Deep.Slices
import Derived.Deep.Fields
import Derived.ChangeSame
import Derived.SizedLaws
import Derived.Lib.SmallJoins
import Derived.Below
import Derived.OpenShut
import Derived.Carry
import Derived.Test.YtinnphmnhmdcgaaGreatRows
import Derived.Deep.DeepHandedRow
import Derived.Lib.LaidTab
set_option linter.unusedVariables false
set_option linter.unusedSectionVars false
namespace Go.Proofs.YtinnphmnhmdcgaaGreat.Am
open Go.RowKit
def clashP (p x : List Fact) : Bool := x.any fun f => decide (0 ≤ findF p f.1) && decide (findF p f.1 ≠ f.2)
def lowF (p : List Fact) : List Fact → Int → Int
  | [], v => v
  | f :: r, v => lowF p r (if f.1 < v ∧ findF p f.1 < 0 then f.1 else v)
def lowL (p : List Fact) : List (List Fact) → Int → Int
  | [], v => v
  | x :: r, v => lowL p r (lowF p x v)
def restP (p : List Fact) (l : List (List Fact)) : List (List Fact) := l.filter fun x => !clashP p x
theorem lowF_spec (p : List Fact) : ∀ (l : List Fact) (v : Int), lowF p l v ≤ v ∧ (∀ f ∈ l, findF p f.1 < 0 → lowF p l v ≤ f.1) ∧ (lowF p l v = v ∨ ∃ f ∈ l, f.1 = lowF p l v ∧ findF p f.1 < 0)
  | [], v => ⟨Int.le_refl _, (nofun), .inl rfl⟩
  | f :: r, v => by
    rw [lowF]
    by_cases h : f.1 < v ∧ findF p f.1 < 0
    · rw [if_pos h]
      obtain ⟨h1, h2, h3⟩ := lowF_spec p r f.1
      refine ⟨by omega, fun u hu hn => ?_, ?_⟩
      · rcases List.mem_cons.1 hu with rfl | hu
        · exact h1
        · exact h2 u hu hn
      · rcases h3 with h3 | ⟨u, hu, e⟩
        · exact .inr ⟨f, List.mem_cons_self .., h3.symm, h.2⟩
        · exact .inr ⟨u, List.mem_cons_of_mem _ hu, e⟩
    · rw [if_neg h]
      obtain ⟨h1, h2, h3⟩ := lowF_spec p r v
      refine ⟨h1, fun u hu hn => ?_, ?_⟩
      · rcases List.mem_cons.1 hu with rfl | hu
        · have : ¬ u.1 < v := fun hlt => h ⟨hlt, hn⟩
          omega
        · exact h2 u hu hn
      · rcases h3 with h3 | ⟨u, hu, e⟩
        · exact .inl h3
        · exact .inr ⟨u, List.mem_cons_of_mem _ hu, e⟩
theorem lowL_spec (p : List Fact) : ∀ (l : List (List Fact)) (v : Int), lowL p l v ≤ v ∧ (∀ x ∈ l, ∀ f ∈ x, findF p f.1 < 0 → lowL p l v ≤ f.1) ∧ (lowL p l v = v ∨ ∃ x ∈ l, ∃ f ∈ x, f.1 = lowL p l v ∧ findF p f.1 < 0)
  | [], v => ⟨Int.le_refl _, (nofun), .inl rfl⟩
  | x :: r, v => by
    rw [lowL]
    obtain ⟨g1, g2, g3⟩ := lowF_spec p x v
    obtain ⟨h1, h2, h3⟩ := lowL_spec p r (lowF p x v)
    refine ⟨by omega, fun y hy f hf hn => ?_, ?_⟩
    · rcases List.mem_cons.1 hy with rfl | hy
      · have := g2 f hf hn; omega
      · exact h2 y hy f hf hn
    · rcases h3 with h3 | ⟨y, hy, f, hf, e⟩
      · rcases g3 with g3 | ⟨f, hf, e, hn⟩
        · exact .inl (by omega)
        · exact .inr ⟨x, List.mem_cons_self .., f, hf, by omega, hn⟩
      · exact .inr ⟨y, List.mem_cons_of_mem _ hy, f, hf, e⟩
theorem prop_vf {vars : List Int} {p : List Fact} (h : propF vars (-1) p = true) : Nonneg p ∧ Asc p ∧ ∀ x ∈ p, x.1 < vars.length ∧ x.2 < vars.getD x.1.toNat 0 := by
  obtain ⟨hv, hr⟩ := (propF_iff vars p (-1)).1 h
  obtain ⟨hn, ha⟩ := (vF_iff' p).1 hv
  exact ⟨hn, ha, hr⟩
structure DecP (vars : List Int) (d : Nat) (p : List Fact) (l : List (List Fact)) : Prop where
  dom : ∀ n ∈ vars, 1 ≤ n
  prop : propF vars (-1) p = true
  all : PropL vars l
  deep : vars.length < d + p.length
theorem DecP.low {vars : List Int} {d : Nat} {p : List Fact} {l : List (List Fact)} (h : DecP vars d p l) (hl : lowL p (restP p l) vars.length ≠ vars.length) : 0 ≤ lowL p (restP p l) vars.length ∧ lowL p (restP p l) vars.length < vars.length ∧ findF p (lowL p (restP p l) vars.length) < 0 := by
  obtain ⟨h1, -, h3⟩ := lowL_spec p (restP p l) vars.length
  rcases h3 with h3 | ⟨x, hx, f, hf, e, hn⟩
  · exact absurd h3 hl
  · obtain ⟨hxn, -, -⟩ := prop_vf (h.all x (List.mem_filter.1 hx).1)
    have := (hxn f hf).1
    exact ⟨by omega, by omega, by rw [← e]; exact hn⟩
theorem DecP.zero {vars : List Int} {p : List Fact} {l : List (List Fact)} (h : DecP vars 0 p l) : False := by
  have h1 := propF_len' h.prop
  have h2 := h.deep
  omega
end Go.Proofs.YtinnphmnhmdcgaaGreat.Am
namespace Go.Proofs.YtinnphmnhmdcgaaGreat.Am
open Go.RowKit
end Go.Proofs.YtinnphmnhmdcgaaGreat.Am
namespace Go.Proofs.YtinnphmnhmdcgaaGreat.Am
end Go.Proofs.YtinnphmnhmdcgaaGreat.Am
namespace Go.Proofs.YtinnphmnhmdcgaaGreat.Am
open Go.RowKit
structure DomP (vars : List Int) : Prop where
  len : vars.length ≤ 64
  dom : ∀ n ∈ vars, 1 ≤ n ∧ n ≤ 64
end Go.Proofs.YtinnphmnhmdcgaaGreat.Am
namespace Go.Proofs.YtinnphmnhmdcgaaGreat.Am
open Go.RowKit
end Go.Proofs.YtinnphmnhmdcgaaGreat.Am
namespace Go.Proofs.YtinnphmnhmdcgaaGreat.Am
end Go.Proofs.YtinnphmnhmdcgaaGreat.Am
namespace Go.Proofs.YtinnphmnhmdcgaaGreat.Am
open Go.RowKit
def limF (l : List Fact) : Bool := l.all fun x => decide (x.1 < 64 ∧ x.2 < 64)
def frmF (l : List Fact) : Bool := vF (-1) l && limF l
structure ShC (c : GCertificate) : Prop where
  list : Sh c.Nogoods
  each : ∀ n ∈ c.Nogoods, Sh n.1
structure CertP (vars : List Int) (c : GCertificate) : Prop where
  b0 : -1 ≤ c.Bound
  b1 : c.Bound ≤ 1099511627776
  len : c.Nogoods.length ≤ 4096
  prop : ∀ n ∈ c.Nogoods, propF vars (-1) n.1 = true
  frm : ∀ n ∈ c.Nogoods, frmF n.1 = true
  d0 : ∀ n ∈ c.Nogoods, 0 ≤ n.2
  d1 : ∀ n ∈ c.Nogoods, 0 ≤ c.Bound → n.2 < c.Bound
  d2 : ∀ n ∈ c.Nogoods, c.Bound < 0 → n.2 = 0
end Go.Proofs.YtinnphmnhmdcgaaGreat.Am
namespace Go.Proofs.YtinnphmnhmdcgaaGreat.Am
open Go.RowKit
def distO (c : GCertificate) (n : Nogood) (o : GOp) : Int := if 0 ≤ c.Bound then n.2 + o.Cost else 0
def skipO (c : GCertificate) (n : Nogood) (o : GOp) : Bool := decide (0 ≤ c.Bound ∧ c.Bound ≤ n.2 + o.Cost)
end Go.Proofs.YtinnphmnhmdcgaaGreat.Am
namespace Go.Proofs.YtinnphmnhmdcgaaGreat.Am
open Go.RowKit
def claimsF (ns : List Nogood) (s : List Int) (d : Int) : Bool := ns.any fun n => decide (n.2 ≤ d) && holdsF s n.1
def inF (o : GOp) (p : List Fact) (s : List Int) : Bool := holdsF s o.Pre && holdsF (nextF s o) p
structure Acc (t : GTask) (c : GCertificate) : Prop where
  init : ∀ n ∈ c.Nogoods, holdsF t.Init n.1 = false
  goal : c.Bound ≠ 0 → ∀ s ∈ allF t, holdsF s t.Goal = true → claimsF c.Nogoods s 0 = true
  step : ∀ n ∈ c.Nogoods, ∀ o ∈ t.Ops, skipO c n o = false → ∀ s ∈ allF t, inF o n.1 s = true → claimsF c.Nogoods s (distO c n o) = true
end Go.Proofs.YtinnphmnhmdcgaaGreat.Am
namespace Go.Proofs.YtinnphmnhmdcgaaGreat.Am
set_option maxHeartbeats 16000000
set_option maxRecDepth 100000
open Go.RowKit
def M_l33_awake (g : Nat) : Option (Bool) :=
  ob2 (M_mutex_New g ({ Vars := [3], Init := [0], Goal := [], Ops := [{ Name := (⟨#[]⟩ : ByteArray), Cost := 0, Pre := [], Effs := [{ When := [], Var := 0, Val := 1 : GEffect }] : GOp }] : GTask })) (fun z1 z2 =>
   erM z2
    (opM z1
      (some false)
      (fun z4 => ob1 (M_stratagem_mutex_Table_Reached (some z4) (0, 1)) (fun z5 =>
        sel z5
         (ob1 (M_stratagem_mutex_Table_Reached (some z4) (0, 2)) (fun z6 =>
           some (!z6)))
         (some false))))
    (fun _ => some false))
theorem A_l33_awake (g : Nat) {r1 : Bool} (h : M_l33_awake g = some r1) : ACall cx 12 [] (.c (.bool r1)) := by
  refine aOf Tryz.func12 rfl (by decide) rfl (Nat.le_of_ble_eq_true rfl) ?_; intro _; unfold M_l33_awake at h; refine aSR ?_; intro _; refine dr ?_; refine aSR ?_; intro _; obtain ⟨z1, z2, u1, h⟩ := ob2_ok h; refine clf [(4, ⟨2, none⟩), (5, ⟨2, none⟩), (7, ⟨2, none⟩), (9, ⟨2, none⟩)] rfl rfl (A_mutex_New g ({ Vars := [3], Init := [0], Goal := [], Ops := [{ Name := (⟨#[]⟩ : ByteArray), Cost := 0, Pre := [], Effs := [{ When := [], Var := 0, Val := 1 : GEffect }] : GOp }] : GTask }) u1) ?_; intro _; refine dr ?_; refine aSq ?_; rcases z2 with _ | e3
  · replace h := erM_nil h; rcases z1 with _ | z4
    · replace h := opM_none h; refine aRg ?_; intro _; refine litT ?_; intro _; refine ⟨_, lf_nilQ rfl (Nat.le_of_ble_eq_true rfl) rfl (by kernel_rfl) (.inr ⟨rfl, rfl⟩), ?_⟩; intro _; refine litF ?_; intro _; refine dr ?_; refine aRt ?_; intro _; obtain rfl := inj1 h; exact ca_0
    · replace h := opM_some h; refine aRg ?_; intro _; refine litT ?_; intro _; refine ⟨_, lf_nilP rfl (Nat.le_of_ble_eq_true rfl) rfl (by kernel_rfl) (.inr ⟨rfl, rfl⟩), ?_⟩; intro _; refine litT ?_; intro _; obtain ⟨z5, u2, h⟩ := ob1_ok h; refine cl rfl (A_stratagem_mutex_Table_Reached (some z4) (0, 1) u2) ?_; intro _; refine spl h (fun c3 h => ?_) (fun c3 h => ?_)
      · intro _; obtain ⟨z6, u4, h⟩ := ob1_ok h; refine cl rfl (A_stratagem_mutex_Table_Reached (some z4) (0, 2) u4) ?_; intro _; refine dr ?_; refine aRt ?_; intro _; obtain rfl := inj1 h; exact ca_0
      · intro _; refine dr ?_; refine aRt ?_; intro _; obtain rfl := inj1 h; exact ca_0
  · replace h := erM_no h; refine aRg ?_; intro _; refine litF ?_; intro _; refine dr ?_; refine aRt ?_; intro _; obtain rfl := inj1 h; exact ca_0
def M_l33_fit (a0 : GTask) : Option (Bool) :=
  ob1 (M_b_Tame a0) (fun z1 =>
   sel z1
    (sel (decide (((a0.Ops.map cGOp).length : Int) ≤ 10))
      (some (decide (((a0.Vars.map cI).length : Int) ≤ 6)))
      (some false))
    (some false))
theorem A_l33_fit (a0 : GTask) {r1 : Bool} (h : M_l33_fit a0 = some r1) : ACall cx 10 [.agg [.sl 1 (a0.Vars.map cI), .sl 1 (a0.Init.map cI), .sl 2 (a0.Goal.map cF), .sl 4 (a0.Ops.map cGOp)]] (.c (.bool r1)) := by
  refine aOf Tryz.func10 rfl (by decide) rfl (Nat.le_of_ble_eq_true rfl) ?_; intro _; unfold M_l33_fit at h; refine aSR ?_; intro _; refine dr ?_; refine aSR ?_; intro _; obtain ⟨z1, u1, h⟩ := ob1_ok h; refine cl rfl (A_b_Tame a0 u1) ?_; intro _; refine spl h (fun c2 h => ?_) (fun c2 h => ?_)
  · intro _; refine spl h (fun c3 h => ?_) (fun c3 h => ?_)
    · intro _; refine dr ?_; refine aRt ?_; intro _; obtain rfl := inj1 h; exact ca_0
    · intro _; refine dr ?_; refine aRt ?_; intro _; obtain rfl := inj1 h; exact ca_0
  · intro _; refine dr ?_; refine aRt ?_; intro _; obtain rfl := inj1 h; exact ca_0
def M_mutex_Prune_L1 (z4 : GTask) (z5 : GTable) : Nat → Int → (List GOp) → (List Int) → Option (GTask × (List Int) × Er)
  | 0, _, _, _ => none
  | k16 + 1, v13, v14, v15 =>
    sel (decide (v13 < ((z5.t.Ops.map cGOp).length : Int)))
     (ix z5.t.Ops v13 (fun y17 =>
       ob1 (M_stratagem_mutex_Table_mutex z5 y17.Pre) (fun z18 =>
        sel (!z18)
         (grd ((v14.length + 1) * 72 ≤ 140737488355328) (grd ((v15.length + 1) * 8 ≤ 140737488355328) (M_mutex_Prune_L1 z4 z5 k16 (IntKind.i64.wrap (v13 + 1)) (v14 ++ [y17]) (v15 ++ [v13]))))
         (M_mutex_Prune_L1 z4 z5 k16 (IntKind.i64.wrap (v13 + 1)) v14 v15))))
     (grd (v14.length ≤ 140737488355328) (grd (v15.length ≤ 140737488355328) (some ({ Vars := z4.Vars, Init := z4.Init, Goal := z4.Goal, Ops := v14 : GTask }, v15, Er.nil))))
def M_mutex_Prune (g : Nat) (a0 : GTask) : Option (GTask × (List Int) × Er) :=
  ob2 (M_mutex_New g a0) (fun z1 z2 =>
   erM z2
    (ob1 (M_mutex_copied a0) (fun z4 =>
      opM z1
       (none)
       (fun z5 => M_mutex_Prune_L1 z4 z5 ((((z5.t.Ops.map cGOp).length : Int)).toNat + 1) 0 [] [])))
    (fun e3 => some ({ Vars := [], Init := [], Goal := [], Ops := [] : GTask }, [], (Er.no e3))))
theorem A_mutex_Prune (g : Nat) (a0 : GTask) {r1 : GTask} {r2 : List Int} {r3 : Er} (h : M_mutex_Prune g a0 = some (r1, r2, r3)) : ACall cx 25 [.agg [.sl 1 (a0.Vars.map cI), .sl 1 (a0.Init.map cI), .sl 2 (a0.Goal.map cF), .sl 4 (a0.Ops.map cGOp)]] (.tup [.agg [.sl 1 (r1.Vars.map cI), .sl 1 (r1.Init.map cI), .sl 2 (r1.Goal.map cF), .sl 4 (r1.Ops.map cGOp)], .sl 1 (r2.map cI), eA r3]) := by
  refine aOf Tryz.func25 rfl (by decide) rfl (Nat.le_of_ble_eq_true rfl) ?_; intro _; unfold M_mutex_Prune at h; refine aSR ?_; intro _; refine dr ?_; refine aSR ?_; intro _; obtain ⟨z1, z2, u1, h⟩ := ob2_ok h; refine cl rfl (A_mutex_New g a0 u1) ?_; intro _; refine dr ?_; refine aSq ?_; refine aSq ?_; rcases z2 with _ | e3
  · replace h := erM_nil h; refine aRg ?_; intro _; refine dr ?_; refine aCd ?_; intro _; refine litF ?_; refine aSk ?_; refine aSR ?_; intro _; obtain ⟨z4, u2, h⟩ := ob1_ok h; refine cl rfl (A_mutex_copied a0 u2) ?_; intro _; refine dr ?_; refine aSR ?_; intro _; refine dr ?_; refine aSR ?_; intro _; refine dr ?_; refine aSq ?_; refine aSq ?_; rcases z1 with _ | z5
    · replace h := opM_none h; cases h
    · replace h := opM_some h; refine aRg ?_; intro _; refine dr ?_; refine aBk ?_; refine awp_loop (α := Nat × Int × (List GOp) × (List Int)) (fun x => mkS 52 [(2, .ptr 2 0 0 0), (5, .pim [.sl 1 (z5.t.Vars.map cI), .sl 1 (z5.t.Init.map cI), .sl 2 (z5.t.Goal.map cF), .sl 4 (z5.t.Ops.map cGOp), .sl 1 (z5.first.map cI), .sl 1 (z5.reached.map cL_cB)] 0), (7, .ptr 7 0 0 0), (8, .own 47 0 0 x.2.2.2.length), (27, .sl 4 (z5.t.Ops.map cGOp)), (28, .c (.int .i64 ((z5.t.Ops.map cGOp).length : Int))), (29, .c (.int .i64 x.2.1))] [(2, ⟨26, 4, true, [[.c (.slice none 0 0), .c (.slice none 0 0), .c (.slice none 0 0), .c (.slice none 0 0)]]⟩), (7, ⟨26, 4, true, [[.sl 1 (z4.Vars.map cI), .sl 1 (z4.Init.map cI), .sl 2 (z4.Goal.map cF), .own 43 0 0 x.2.2.1.length]]⟩), (43, ⟨60, 4, false, x.2.2.1.map cGOp⟩), (47, ⟨3, 1, false, x.2.2.2.map cI⟩)]) (fun x => M_mutex_Prune_L1 z4 z5 x.1 x.2.1 x.2.2.1 x.2.2.2 = some (r1, r2, r3)) (fun x => x.1) ((((z5.t.Ops.map cGOp).length : Int)).toNat + 1, 0, [], []) h ?_ ?_
      · exact ca_0
      · intro x3 h; intro _; obtain ⟨k16, m4, h⟩ := succ_of (f := fun n => M_mutex_Prune_L1 z4 z5 n x3.2.1 x3.2.2.1 x3.2.2.2) rfl h; replace h : M_mutex_Prune_L1 z4 z5 (k16 + 1) x3.2.1 x3.2.2.1 x3.2.2.2 = some (r1, r2, r3) := h; rw [M_mutex_Prune_L1] at h; refine aSR ?_; intro _; refine dr ?_; refine aSq ?_; refine aCd ?_; intro _; refine spl h (fun c5 h => ?_) (fun c5 h => ?_)
        · refine aSk ?_; refine aSq ?_; refine aBk ?_; refine aSR ?_; intro _; obtain ⟨y17, w6, q7, h⟩ := ix_ok h; refine Exists.intro (cGOp y17) (And.intro (map_at' w6) ?_); intro _; refine pr ?_; refine dr ?_; refine aSR ?_; intro _; obtain ⟨z18, u8, h⟩ := ob1_ok h; refine cl rfl (A_stratagem_mutex_Table_mutex z5 y17.Pre u8) ?_; intro _; refine dr ?_; refine aCd ?_; intro _; refine spl h (fun c9 h => ?_) (fun c9 h => ?_)
          · refine aRg ?_; intro _; obtain ⟨q10, h⟩ := grd_ok h; obtain ⟨q11, h⟩ := grd_ok h; refine pl ?_; refine pl ?_; refine And.intro (by first | with_reducible assumption | (show (x3.2.2.1.length + 1) * 72 ≤ 140737488355328; with_reducible assumption) | omega | (simp; omega)) ?_; refine pe ?_; refine pl ?_; refine pl ?_; refine And.intro (by first | with_reducible assumption | (show (x3.2.2.2.length + 1) * 8 ≤ 140737488355328; with_reducible assumption) | omega | (simp; omega)) ?_; refine pe ?_; refine dr ?_; refine aRg ?_; intro _; refine dr ?_; refine ⟨(k16, (IntKind.i64.wrap (x3.2.1 + 1)), (x3.2.2.1 ++ [y17]), (x3.2.2.2 ++ [x3.2.1])), h, ltS m4, ?_⟩; exact ca_0
          · refine aSk ?_; refine aRg ?_; intro _; refine dr ?_; refine ⟨(k16, (IntKind.i64.wrap (x3.2.1 + 1)), x3.2.2.1, x3.2.2.2), h, ltS m4, ?_⟩; exact ca_0
        · refine aEx ?_; refine aSR ?_; intro _; refine dr ?_; refine aRt ?_; obtain ⟨q12, h⟩ := grd_ok h; obtain ⟨q13, h⟩ := grd_ok h; intro _; obtain ⟨rfl, rfl, rfl⟩ := inj3 h; exact ca_0
  · replace h := erM_no h; refine aRg ?_; intro _; refine dr ?_; refine aCd ?_; intro _; refine litT ?_; refine aSR ?_; intro _; refine dr ?_; refine aRt ?_; intro _; obtain ⟨rfl, rfl, rfl⟩ := inj3 h; exact ca_0
def M_b_Ints_L1 (a0 : List Int) (a1 : List Int) : Nat → Int → Option (Bool)
  | 0, _ => none
  | k7 + 1, v6 =>
    sel (decide (v6 < ((a0.map cI).length : Int)))
     (ix a0 v6 (fun y8 =>
       ix a1 v6 (fun y9 =>
        sel (y8 != y9)
         (some false)
         (M_b_Ints_L1 a0 a1 k7 (IntKind.i64.wrap (v6 + 1))))))
     (some true)
def M_b_Ints (a0 : List Int) (a1 : List Int) : Option (Bool) :=
  sel (((a0.map cI).length : Int) != ((a1.map cI).length : Int))
   (some false)
   (M_b_Ints_L1 a0 a1 ((((a0.map cI).length : Int)).toNat + 1) 0)
theorem A_b_Ints (a0 : List Int) (a1 : List Int) {r1 : Bool} (h : M_b_Ints a0 a1 = some r1) : ACall cx 27 [.sl 1 (a0.map cI), .sl 1 (a1.map cI)] (.c (.bool r1)) := by
  refine aOf Tryz.func27 rfl (by decide) rfl (Nat.le_of_ble_eq_true rfl) ?_; intro _; unfold M_b_Ints at h; refine aSR ?_; intro _; refine dr ?_; refine aSq ?_; refine aSR ?_; intro _; refine dr ?_; refine aCd ?_; intro _; refine spl h (fun c1 h => ?_) (fun c1 h => ?_)
  · refine aSR ?_; intro _; refine dr ?_; refine aRt ?_; intro _; obtain rfl := inj1 h; exact ca_0
  · refine aSk ?_; refine aSq ?_; refine aSR ?_; intro _; refine dr ?_; refine aBk ?_; refine awp_loop (α := Nat × Int) (fun x => mkS 26 [(0, .sl 1 (a0.map cI)), (1, .sl 1 (a1.map cI)), (12, .c (.int .i64 ((a0.map cI).length : Int))), (13, .c (.int .i64 x.2))] []) (fun x => M_b_Ints_L1 a0 a1 x.1 x.2 = some r1) (fun x => x.1) ((((a0.map cI).length : Int)).toNat + 1, 0) h ?_ ?_
    · exact ca_0
    · intro x2 h; intro _; obtain ⟨k7, m3, h⟩ := succ_of (f := fun n => M_b_Ints_L1 a0 a1 n x2.2) rfl h; replace h : M_b_Ints_L1 a0 a1 (k7 + 1) x2.2 = some r1 := h; rw [M_b_Ints_L1] at h; refine aSR ?_; intro _; refine dr ?_; refine aSq ?_; refine aCd ?_; intro _; refine spl h (fun c4 h => ?_) (fun c4 h => ?_)
      · refine aSk ?_; refine aSq ?_; refine aBk ?_; refine aSR ?_; intro _; refine dr ?_; refine aSR ?_; intro _; obtain ⟨y8, w5, q6, h⟩ := ix_ok h; refine Exists.intro (cI y8) (And.intro (map_at' w5) ?_); intro _; obtain ⟨y9, w7, q8, h⟩ := ix_ok h; refine Exists.intro (cI y9) (And.intro (map_at' w7) ?_); intro _; refine pr ?_; refine pr ?_; refine dr ?_; refine aCd ?_; intro _; refine spl h (fun c9 h => ?_) (fun c9 h => ?_)
        · refine aSR ?_; intro _; refine dr ?_; refine aRt ?_; intro _; obtain rfl := inj1 h; exact ca_0
        · refine aSk ?_; refine aRg ?_; intro _; refine dr ?_; refine ⟨(k7, (IntKind.i64.wrap (x2.2 + 1))), h, ltS m3, ?_⟩; exact ca_0
      · refine aEx ?_; refine aSR ?_; intro _; refine dr ?_; refine aRt ?_; intro _; obtain rfl := inj1 h; exact ca_0
def M_b_Facts_L1 (a0 : List Fact) (a1 : List Fact) : Nat → Int → Option (Bool)
  | 0, _ => none
  | k7 + 1, v6 =>
    sel (decide (v6 < ((a0.map cF).length : Int)))
     (ix a0 v6 (fun y8 =>
       ix a1 v6 (fun y9 =>
        sel (!(y8.1 == y9.1 && y8.2 == y9.2))
         (some false)
         (M_b_Facts_L1 a0 a1 k7 (IntKind.i64.wrap (v6 + 1))))))
     (some true)
def M_b_Facts (a0 : List Fact) (a1 : List Fact) : Option (Bool) :=
  sel (((a0.map cF).length : Int) != ((a1.map cF).length : Int))
   (some false)
   (M_b_Facts_L1 a0 a1 ((((a0.map cF).length : Int)).toNat + 1) 0)
theorem A_b_Facts (a0 : List Fact) (a1 : List Fact) {r1 : Bool} (h : M_b_Facts a0 a1 = some r1) : ACall cx 57 [.sl 2 (a0.map cF), .sl 2 (a1.map cF)] (.c (.bool r1)) := by
  refine aOf Tryz.func57 rfl (by decide) rfl (Nat.le_of_ble_eq_true rfl) ?_; intro _; unfold M_b_Facts at h; refine aSR ?_; intro _; refine dr ?_; refine aSq ?_; refine aSR ?_; intro _; refine dr ?_; refine aCd ?_; intro _; refine spl h (fun c1 h => ?_) (fun c1 h => ?_)
  · refine aSR ?_; intro _; refine dr ?_; refine aRt ?_; intro _; obtain rfl := inj1 h; exact ca_0
  · refine aSk ?_; refine aSq ?_; refine aSR ?_; intro _; refine dr ?_; refine aBk ?_; refine awp_loop (α := Nat × Int) (fun x => mkS 26 [(0, .sl 2 (a0.map cF)), (1, .sl 2 (a1.map cF)), (12, .c (.int .i64 ((a0.map cF).length : Int))), (13, .c (.int .i64 x.2))] []) (fun x => M_b_Facts_L1 a0 a1 x.1 x.2 = some r1) (fun x => x.1) ((((a0.map cF).length : Int)).toNat + 1, 0) h ?_ ?_
    · exact ca_0
    · intro x2 h; intro _; obtain ⟨k7, m3, h⟩ := succ_of (f := fun n => M_b_Facts_L1 a0 a1 n x2.2) rfl h; replace h : M_b_Facts_L1 a0 a1 (k7 + 1) x2.2 = some r1 := h; rw [M_b_Facts_L1] at h; refine aSR ?_; intro _; refine dr ?_; refine aSq ?_; refine aCd ?_; intro _; refine spl h (fun c4 h => ?_) (fun c4 h => ?_)
      · refine aSk ?_; refine aSq ?_; refine aBk ?_; refine aSR ?_; intro _; refine dr ?_; refine aSR ?_; intro _; obtain ⟨y8, w5, q6, h⟩ := ix_ok h; refine Exists.intro (cF y8) (And.intro (map_at' w5) ?_); intro _; obtain ⟨y9, w7, q8, h⟩ := ix_ok h; refine Exists.intro (cF y9) (And.intro (map_at' w7) ?_); intro _; refine ⟨_, lf_eq2 rfl (Nat.le_of_ble_eq_true rfl) rfl rfl (eqFact _ _ _ _) (eqFactG _ _ _ _ _ _ _) (.inr ⟨rfl, rfl⟩), ?_⟩; intro _; refine pr ?_; refine pr ?_; refine dr ?_; refine aCd ?_; intro _; refine spl h (fun c9 h => ?_) (fun c9 h => ?_)
        · refine aSR ?_; intro _; refine dr ?_; refine aRt ?_; intro _; obtain rfl := inj1 h; exact ca_0
        · refine aSk ?_; refine aRg ?_; intro _; refine dr ?_; refine ⟨(k7, (IntKind.i64.wrap (x2.2 + 1))), h, ltS m3, ?_⟩; exact ca_0
      · refine aEx ?_; refine aSR ?_; intro _; refine dr ?_; refine aRt ?_; intro _; obtain rfl := inj1 h; exact ca_0
def M_b_Effects_L1 (a0 : List GEffect) (a1 : List GEffect) : Nat → Int → Option (Bool)
  | 0, _ => none
  | k17 + 1, v16 =>
    sel (decide (v16 < ((a0.map cGEffect).length : Int)))
     (ix a0 v16 (fun y18 =>
       ix a1 v16 (fun y19 =>
        sel (y18.Var != y19.Var)
         (some false)
         (ix a0 v16 (fun y20 =>
           ix a1 v16 (fun y21 =>
            sel (y20.Val != y21.Val)
             (some false)
             (ix a0 v16 (fun y22 =>
               ix a1 v16 (fun y23 =>
                ob1 (M_b_Facts y22.When y23.When) (fun z24 =>
                 sel (!z24)
                  (some false)
                  (M_b_Effects_L1 a0 a1 k17 (IntKind.i64.wrap (v16 + 1)))))))))))))
     (some true)
def M_b_Effects (a0 : List GEffect) (a1 : List GEffect) : Option (Bool) :=
  sel (((a0.map cGEffect).length : Int) != ((a1.map cGEffect).length : Int))
   (some false)
   (M_b_Effects_L1 a0 a1 ((((a0.map cGEffect).length : Int)).toNat + 1) 0)
theorem A_b_Effects (a0 : List GEffect) (a1 : List GEffect) {r1 : Bool} (h : M_b_Effects a0 a1 = some r1) : ACall cx 58 [.sl 3 (a0.map cGEffect), .sl 3 (a1.map cGEffect)] (.c (.bool r1)) := by
  refine aOf Tryz.func58 rfl (by decide) rfl (Nat.le_of_ble_eq_true rfl) ?_; intro _; unfold M_b_Effects at h; refine aSR ?_; intro _; refine dr ?_; refine aSq ?_; refine aSR ?_; intro _; refine dr ?_; refine aCd ?_; intro _; refine spl h (fun c1 h => ?_) (fun c1 h => ?_)
  · refine aSR ?_; intro _; refine dr ?_; refine aRt ?_; intro _; obtain rfl := inj1 h; exact ca_0
  · refine aSk ?_; refine aSq ?_; refine aSR ?_; intro _; refine dr ?_; refine aBk ?_; refine awp_loop (α := Nat × Int) (fun x => mkS 55 [(0, .sl 3 (a0.map cGEffect)), (1, .sl 3 (a1.map cGEffect)), (12, .c (.int .i64 ((a0.map cGEffect).length : Int))), (13, .c (.int .i64 x.2))] []) (fun x => M_b_Effects_L1 a0 a1 x.1 x.2 = some r1) (fun x => x.1) ((((a0.map cGEffect).length : Int)).toNat + 1, 0) h ?_ ?_
    · exact ca_0
    · intro x2 h; intro _; obtain ⟨k17, m3, h⟩ := succ_of (f := fun n => M_b_Effects_L1 a0 a1 n x2.2) rfl h; replace h : M_b_Effects_L1 a0 a1 (k17 + 1) x2.2 = some r1 := h; rw [M_b_Effects_L1] at h; refine aSR ?_; intro _; refine dr ?_; refine aSq ?_; refine aCd ?_; intro _; refine spl h (fun c4 h => ?_) (fun c4 h => ?_)
      · refine aSk ?_; refine aSq ?_; refine aBk ?_; refine aSR ?_; intro _; refine dr ?_; refine aSR ?_; intro _; obtain ⟨y18, w5, q6, h⟩ := ix_ok h; refine Exists.intro (cGEffect y18) (And.intro (map_at' w5) ?_); intro _; obtain ⟨y19, w7, q8, h⟩ := ix_ok h; refine Exists.intro (cGEffect y19) (And.intro (map_at' w7) ?_); intro _; refine spf h (fun c9 h => ?_) (fun c9 h => ?_)
        · intro _; obtain ⟨y20, w10, q11, h⟩ := ix_ok h; refine Exists.intro (cGEffect y20) (And.intro (map_at' w10) ?_); intro _; obtain ⟨y21, w12, q13, h⟩ := ix_ok h; refine Exists.intro (cGEffect y21) (And.intro (map_at' w12) ?_); intro _; refine spf h (fun c14 h => ?_) (fun c14 h => ?_)
          · intro _; obtain ⟨y22, w15, q16, h⟩ := ix_ok h; refine Exists.intro (cGEffect y22) (And.intro (map_at' w15) ?_); intro _; obtain ⟨y23, w17, q18, h⟩ := ix_ok h; refine Exists.intro (cGEffect y23) (And.intro (map_at' w17) ?_); intro _; obtain ⟨z24, u19, h⟩ := ob1_ok h; refine cl rfl (A_b_Facts y22.When y23.When u19) ?_; intro _; refine pr ?_; refine pr ?_; refine pr ?_; refine pr ?_; refine pr ?_; refine pr ?_; refine dr ?_; refine aCd ?_; intro _; refine spl h (fun c20 h => ?_) (fun c20 h => ?_)
            · refine aSR ?_; intro _; refine dr ?_; refine aRt ?_; intro _; obtain rfl := inj1 h; exact ca_0
            · refine aSk ?_; refine aRg ?_; intro _; refine dr ?_; refine ⟨(k17, (IntKind.i64.wrap (x2.2 + 1))), h, ltS m3, ?_⟩; exact ca_0
          · intro _; refine pr ?_; refine pr ?_; refine pr ?_; refine pr ?_; refine dr ?_; refine aCd ?_; intro _; refine litT ?_; refine aSR ?_; intro _; refine dr ?_; refine aRt ?_; intro _; obtain rfl := inj1 h; exact ca_0
        · intro _; refine pr ?_; refine pr ?_; refine dr ?_; refine aCd ?_; intro _; refine litT ?_; refine aSR ?_; intro _; refine dr ?_; refine aRt ?_; intro _; obtain rfl := inj1 h; exact ca_0
      · refine aEx ?_; refine aSR ?_; intro _; refine dr ?_; refine aRt ?_; intro _; obtain rfl := inj1 h; exact ca_0
def M_b_Tasks_L1 (a0 : GTask) (a1 : GTask) : Nat → Int → Option (Bool)
  | 0, _ => none
  | k19 + 1, v18 =>
    sel (decide (v18 < ((a0.Ops.map cGOp).length : Int)))
     (ix a0.Ops v18 (fun y20 =>
       ix a1.Ops v18 (fun y21 =>
        sel (!(y20.Name.toList == y21.Name.toList))
         (some false)
         (sel (y20.Cost != y21.Cost)
           (some false)
           (ob1 (M_b_Facts y20.Pre y21.Pre) (fun z22 =>
             sel (!z22)
              (some false)
              (ob1 (M_b_Effects y20.Effs y21.Effs) (fun z23 =>
                sel (!z23)
                 (some false)
                 (M_b_Tasks_L1 a0 a1 k19 (IntKind.i64.wrap (v18 + 1)))))))))))
     (some true)
def M_b_Tasks (a0 : GTask) (a1 : GTask) : Option (Bool) :=
  ob1 (ob1 (M_b_Ints a0.Vars a1.Vars) (fun z6 =>
    sel (!z6)
     (some (.inr false))
     (ob1 (M_b_Ints a0.Init a1.Init) (fun z7 =>
       sel (!z7)
        (some (.inr false))
        (ob1 (M_b_Facts a0.Goal a1.Goal) (fun z8 =>
          sel (!z8)
           (some (.inr false))
           (sel (((a0.Ops.map cGOp).length : Int) != ((a1.Ops.map cGOp).length : Int))
             (some (.inr false))
             (some (.inl ())))))))) : Option (Unit ⊕ Bool))
   (osum
   (fun _ => M_b_Tasks_L1 a0 a1 ((((a0.Ops.map cGOp).length : Int)).toNat + 1) 0)
   (fun r4 => some r4))
theorem A_b_Tasks (a0 : GTask) (a1 : GTask) {r1 : Bool} (h : M_b_Tasks a0 a1 = some r1) : ACall cx 26 [.agg [.sl 1 (a0.Vars.map cI), .sl 1 (a0.Init.map cI), .sl 2 (a0.Goal.map cF), .sl 4 (a0.Ops.map cGOp)], .agg [.sl 1 (a1.Vars.map cI), .sl 1 (a1.Init.map cI), .sl 2 (a1.Goal.map cF), .sl 4 (a1.Ops.map cGOp)]] (.c (.bool r1)) := by
  refine aOf Tryz.func26 rfl (by decide) rfl (Nat.le_of_ble_eq_true rfl) ?_; intro _; unfold M_b_Tasks at h; refine aSR ?_; intro _; refine dr ?_; obtain ⟨o1, h, hK2⟩ := ob1_ok h; refine awp_cut (α := Unit) (fun _ => mkS 84 [(2, .ptr 2 0 0 0), (3, .ptr 3 0 0 0)] [(2, ⟨26, 4, true, [[.sl 1 (a0.Vars.map cI), .sl 1 (a0.Init.map cI), .sl 2 (a0.Goal.map cF), .sl 4 (a0.Ops.map cGOp)]]⟩), (3, ⟨26, 4, true, [[.sl 1 (a1.Vars.map cI), .sl 1 (a1.Init.map cI), .sl 2 (a1.Goal.map cF), .sl 4 (a1.Ops.map cGOp)]]⟩)]) (fun v => o1 = (.inl v)) ?_ ?_
  · refine aSR ?_; intro _; obtain ⟨z6, u3, h⟩ := ob1_ok h; refine cl rfl (A_b_Ints a0.Vars a1.Vars u3) ?_; intro _; refine spf h (fun c4 h => ?_) (fun c4 h => ?_)
    · intro _; obtain ⟨z7, u5, h⟩ := ob1_ok h; refine cl rfl (A_b_Ints a0.Init a1.Init u5) ?_; intro _; refine spf h (fun c6 h => ?_) (fun c6 h => ?_)
      · intro _; obtain ⟨z8, u7, h⟩ := ob1_ok h; refine cl rfl (A_b_Facts a0.Goal a1.Goal u7) ?_; intro _; refine spf h (fun c8 h => ?_) (fun c8 h => ?_)
        · intro _; refine dr ?_; refine aCd ?_; intro _; refine spl h (fun c9 h => ?_) (fun c9 h => ?_)
          · refine aSR ?_; intro _; refine dr ?_; refine aRt ?_; have j10 := Option.some.inj h; subst j10; replace h := (osum_r hK2); intro _; obtain rfl := inj1 h; exact ca_0
          · refine aSk ?_; refine ⟨(), (Option.some.inj h).symm, ?_⟩; exact ca_0
        · intro _; refine dr ?_; refine aCd ?_; intro _; refine litT ?_; refine aSR ?_; intro _; refine dr ?_; refine aRt ?_; have j11 := Option.some.inj h; subst j11; replace h := (osum_r hK2); intro _; obtain rfl := inj1 h; exact ca_0
      · intro _; refine dr ?_; refine aCd ?_; intro _; refine litT ?_; refine aSR ?_; intro _; refine dr ?_; refine aRt ?_; have j12 := Option.some.inj h; subst j12; replace h := (osum_r hK2); intro _; obtain rfl := inj1 h; exact ca_0
    · intro _; refine dr ?_; refine aCd ?_; intro _; refine litT ?_; refine aSR ?_; intro _; refine dr ?_; refine aRt ?_; have j13 := Option.some.inj h; subst j13; replace h := (osum_r hK2); intro _; obtain rfl := inj1 h; exact ca_0
  · rintro _ ho; have ho := ho.symm; subst ho; intro _; replace h := (osum_l hK2); refine aSq ?_; refine aSR ?_; intro _; refine dr ?_; refine aBk ?_; refine awp_loop (α := Nat × Int) (fun x => mkS 84 [(2, .ptr 2 0 0 0), (3, .ptr 3 0 0 0), (41, .c (.int .i64 ((a0.Ops.map cGOp).length : Int))), (42, .c (.int .i64 x.2))] [(2, ⟨26, 4, true, [[.sl 1 (a0.Vars.map cI), .sl 1 (a0.Init.map cI), .sl 2 (a0.Goal.map cF), .sl 4 (a0.Ops.map cGOp)]]⟩), (3, ⟨26, 4, true, [[.sl 1 (a1.Vars.map cI), .sl 1 (a1.Init.map cI), .sl 2 (a1.Goal.map cF), .sl 4 (a1.Ops.map cGOp)]]⟩)]) (fun x => M_b_Tasks_L1 a0 a1 x.1 x.2 = some r1) (fun x => x.1) ((((a0.Ops.map cGOp).length : Int)).toNat + 1, 0) h ?_ ?_
    · exact ca_0
    · intro x14 h; intro _; obtain ⟨k19, m15, h⟩ := succ_of (f := fun n => M_b_Tasks_L1 a0 a1 n x14.2) rfl h; replace h : M_b_Tasks_L1 a0 a1 (k19 + 1) x14.2 = some r1 := h; rw [M_b_Tasks_L1] at h; refine aSR ?_; intro _; refine dr ?_; refine aSq ?_; refine aCd ?_; intro _; refine spl h (fun c16 h => ?_) (fun c16 h => ?_)
      · refine aSk ?_; refine aSq ?_; refine aBk ?_; refine aSR ?_; intro _; refine dr ?_; refine aSR ?_; intro _; obtain ⟨y20, w17, q18, h⟩ := ix_ok h; refine Exists.intro (cGOp y20) (And.intro (map_at' w17) ?_); intro _; obtain ⟨y21, w19, q20, h⟩ := ix_ok h; refine Exists.intro (cGOp y21) (And.intro (map_at' w19) ?_); intro _; refine pr ?_; refine pr ?_; refine dr ?_; refine aSR ?_; intro _; refine spf h (fun c21 h => ?_) (fun c21 h => ?_)
        · intro _; refine spf h (fun c22 h => ?_) (fun c22 h => ?_)
          · intro _; obtain ⟨z22, u23, h⟩ := ob1_ok h; refine cl rfl (A_b_Facts y20.Pre y21.Pre u23) ?_; intro _; refine spf h (fun c24 h => ?_) (fun c24 h => ?_)
            · intro _; obtain ⟨z23, u25, h⟩ := ob1_ok h; refine cl rfl (A_b_Effects y20.Effs y21.Effs u25) ?_; intro _; refine dr ?_; refine aCd ?_; intro _; refine spl h (fun c26 h => ?_) (fun c26 h => ?_)
              · refine aSR ?_; intro _; refine dr ?_; refine aRt ?_; intro _; obtain rfl := inj1 h; exact ca_0
              · refine aSk ?_; refine aRg ?_; intro _; refine dr ?_; refine ⟨(k19, (IntKind.i64.wrap (x14.2 + 1))), h, ltS m15, ?_⟩; exact ca_0
            · intro _; refine dr ?_; refine aCd ?_; intro _; refine litT ?_; refine aSR ?_; intro _; refine dr ?_; refine aRt ?_; intro _; obtain rfl := inj1 h; exact ca_0
          · intro _; refine dr ?_; refine aCd ?_; intro _; refine litT ?_; refine aSR ?_; intro _; refine dr ?_; refine aRt ?_; intro _; obtain rfl := inj1 h; exact ca_0
        · intro _; refine dr ?_; refine aCd ?_; intro _; refine litT ?_; refine aSR ?_; intro _; refine dr ?_; refine aRt ?_; intro _; obtain rfl := inj1 h; exact ca_0
      · refine aEx ?_; refine aSR ?_; intro _; refine dr ?_; refine aRt ?_; intro _; obtain rfl := inj1 h; exact ca_0
end Go.Proofs.YtinnphmnhmdcgaaGreat.Am
namespace Go.Proofs.YtinnphmnhmdcgaaGreat.Am
end Go.Proofs.YtinnphmnhmdcgaaGreat.Am
namespace Go.Proofs.YtinnphmnhmdcgaaGreat.Am
open Go.RowKit
structure EdgP (t : GTask) (e : GEdge) : Prop where
  ex : ∃ (a b q : Nat) (s : List Int) (o : GOp), e.From = (a : Int) ∧ e.To = (b : Int) ∧ e.Op = (q : Int) ∧ (allF t)[a]? = some s ∧ (allF t)[b]? = some (nextF s o) ∧ t.Ops[q]? = some o ∧ holdsF s o.Pre = true
end Go.Proofs.YtinnphmnhmdcgaaGreat.Am
namespace Go.Proofs.YtinnphmnhmdcgaaGreat.Am
open Go.RowKit
def fit3F (t : GTask) : Bool := tameF t && (decide (t.Ops.length ≤ 10) && decide (t.Vars.length ≤ 6))
theorem fit3_eq (t : GTask) (ht : ShT t) : M_l33_fit t = some (fit3F t) := by
  rw [M_l33_fit, tame_eq t ht, ob1_some, List.length_map, List.length_map, fit3F]
  have e1 : decide ((t.Ops.length : Int) ≤ 10) = decide (t.Ops.length ≤ 10) := decide_eq_decide.2 (by omega)
  have e2 : decide ((t.Vars.length : Int) ≤ 6) = decide (t.Vars.length ≤ 6) := decide_eq_decide.2 (by omega)
  rw [e1, e2]
  cases tameF t <;> cases decide (t.Ops.length ≤ 10) <;> rfl
theorem fit3_of {t : GTask} (h : fit3F t = true) : Fit3 t := by
  unfold fit3F at h
  rw [Bool.and_eq_true, Bool.and_eq_true, decide_eq_true_iff, decide_eq_true_iff] at h
  obtain ⟨h1, h2, h3⟩ := h
  have hs := tame_small h1
  obtain ⟨hg, hv, -⟩ := small_good hs
  unfold tameF at h1
  simp only [Bool.and_eq_true, List.all_eq_true, decide_eq_true_iff] at h1
  have hd := h1.2.1
  have hp : prodN t.Vars ≤ 512 := by
    have hm := manyF_prod 512 t.Vars 1 (fun k hk => by have := hd k hk; omega) (by decide) (by decide)
    rw [show ((512 : Nat) : Int) = 512 from rfl, show ((1 : Nat) : Int) = 1 from rfl, Nat.one_mul] at hm
    have h512 : manyF 512 t.Vars 1 ≤ 512 := by
      have := hs
      unfold smallF at this
      simp only [Bool.and_eq_true, decide_eq_true_iff] at this
      exact this.2.2.2
    rw [hm] at h512
    split at h512 <;> omega
  refine ⟨hg, hs, h2, h3, hd, hp, fun o ho => ?_⟩
  have := h1.2.2 o ho
  unfold tameO twoF at this
  simp only [Bool.and_eq_true, List.all_eq_true, decide_eq_true_iff] at this
  exact this
def tA : GTask := { Vars := [3], Init := [0], Goal := [], Ops := [{ Name := (⟨#[]⟩ : ByteArray), Cost := 0, Pre := [], Effs := [{ When := [], Var := 0, Val := 1 : GEffect }] : GOp }] }
def oA : GOp := { Name := (⟨#[]⟩ : ByteArray), Cost := 0, Pre := [], Effs := [{ When := [], Var := 0, Val := 1 : GEffect }] }
theorem tA_fit : Fit3 tA := fit3_of (by rfl)
theorem tA_sh : ShT tA := ⟨by show _ ≤ _; decide, by show _ ≤ _; decide, by show _ ≤ _; decide, by show _ ≤ _; decide, fun o ho => by
  obtain rfl : o = oA := List.mem_singleton.1 ho
  exact ⟨by show _ ≤ _; decide, by show _ ≤ _; decide, by show _ ≤ _; decide, fun e he => by
    obtain rfl := List.mem_singleton.1 he
    show _ ≤ _
    decide⟩⟩
theorem tA_not : regG [3] oA [(0, 2)] [[]] = some [] := by rfl
theorem tA_reg : regS tA oA [(0, 2)] = [] := by
  have h : regO tA.Vars oA [(0, 2)] = some (sortLL (minF [])) := by
    rw [regO]
    show (regG [3] oA [(0, 2)] [[]]).map _ = _
    rw [tA_not]
    rfl
  rw [regS, h, Option.getD_some]
  refine List.length_eq_zero_iff.1 ?_
  rw [sortLL_length]
  rfl
theorem tA_new (g : Nat) (hg : 1000000 ≤ g) : ∃ R, M_mutex_New g tA = some (some (tbl tA R), Er.nil) ∧ MxR tA R ∧ isF tA R (0, 2) (0, 2) = false := by
  have h2 : InV tA.Vars (0, 2) := ⟨by decide, by decide, by decide, by decide⟩
  refine new_eq tA_fit tA_sh g hg (Q := fun R => isF tA R (0, 2) (0, 2) = false) (fun R a b hR _ hq hs hm => ?_) (fun R _ _ hi => ?_)
  · refine Bool.eq_false_iff.2 fun h => ?_
    rcases (put_is hR tA_fit.sz.pos hs.ia hs.ib h2 h2).1 h with h | ⟨h, h'⟩ | ⟨h, h'⟩
    · rw [hq] at h; cases h
    · rw [← h, ← h'] at hm
      obtain ⟨o, ho, hm⟩ := List.any_eq_true.1 hm
      obtain rfl : o = oA := List.mem_singleton.1 ho
      rw [madeO, show pset ((0 : Int), (2 : Int)) (0, 2) = [(0, 2)] from rfl, tA_reg, List.any_nil, Bool.and_false] at hm
      cases hm
    · rw [← h, ← h'] at hm
      obtain ⟨o, ho, hm⟩ := List.any_eq_true.1 hm
      obtain rfl : o = oA := List.mem_singleton.1 ho
      rw [madeO, show pset ((0 : Int), (2 : Int)) (0, 2) = [(0, 2)] from rfl, tA_reg, List.any_nil, Bool.and_false] at hm
      cases hm
  · refine Bool.eq_false_iff.2 fun h => ?_
    have := ((hi _ _ h2 h2).1 h).1
    exact absurd this (by decide)
theorem awake3 (g : Nat) (hg : 1000000 ≤ g) : M_l33_awake g = some true := by
  obtain ⟨R, h1, h2, h3⟩ := tA_new g hg
  have hz := tA_fit.sz
  have hin : InV tA.Vars (0, 1) := ⟨by decide, by decide, by decide, by decide⟩
  have hs : StP tA.Vars tA.Init := stateF_st (good_init tA_fit.good)
  have hal : Alive tA R tA.Init := fun a b ha hb => h2.init a b ha hb
  have h4 : isF tA R (0, 1) (0, 1) = true := alive_step tA_fit h2.closed hs hal (o := oA) (List.mem_singleton.2 rfl) (by decide) ⟨hin, hin, .inl rfl⟩ (by decide) (by decide) (.inl rfl)
  rw [M_l33_awake]
  show ob2 (M_mutex_New g tA) _ = _
  rw [h1, ob2_some]
  show ob1 (M_stratagem_mutex_Table_Reached (some (tbl tA R)) (0, 1)) _ = _
  have e1 : reaF tA R (0, 1) = true := by rw [reaF, h4]; rfl
  have e2 : reaF tA R (0, 2) = false := by rw [reaF, h3, Bool.and_false]
  rw [reached_eq hz h2.rk, ob1_some, e1, sel_tt, reached_eq hz h2.rk, ob1_some, e2]
  rfl
end Go.Proofs.YtinnphmnhmdcgaaGreat.Am
namespace Go.Proofs.YtinnphmnhmdcgaaGreat.Am
open Go.RowKit
def erN : Er → Int
  | .nil => 0
  | .no e => e
theorem num_eq (e : Er) : M_b_Num e = some (erN e) := by cases e <;> rfl
theorem rg_any {α γ : Type} {B : α → Int → Bool → (Bool → Option γ) → Option γ} {E : Bool → Option γ} {q : α → Bool} : ∀ {l : List α} {i : Int} {v : Bool}, (∀ y ∈ l, ∀ i v rc, B y i v rc = rc (v || q y)) → Rg B E l i v = E (v || l.any q)
  | [], i, v, _ => by rw [Rg, List.any_nil, Bool.or_false]
  | y :: r, i, v, h => by
    rw [Rg, h y (List.mem_cons_self ..), rg_any (fun z hz => h z (List.mem_cons_of_mem _ hz)), List.any_cons, Bool.or_assoc]
theorem rn_any {γ : Type} {B : Int → Bool → (Bool → Option γ) → Option γ} {E : Bool → Option γ} {q : Nat → Bool} : ∀ {m n : Nat} {v : Bool}, (∀ k, n ≤ k → k < n + m → ∀ v rc, B k v rc = rc (v || q k)) → Rn B E m n v = E (v || (List.range' n m).any q)
  | 0, n, v, _ => by rw [Rn]; simp
  | m + 1, n, v, h => by
    rw [Rn, h n (Nat.le_refl _) (by omega), show ((n : Int) + 1) = ((n + 1 : Nat) : Int) from rfl, rn_any (fun k h1 h2 => h k (by omega) (by omega)), List.range'_succ, List.any_cons, Bool.or_assoc]
theorem sel_or {γ : Type} {b : Bool} {rc : Bool → Option γ} {x : Bool} : sel b (rc true) (rc x) = rc (b || x) := by cases b <;> rfl
end Go.Proofs.YtinnphmnhmdcgaaGreat.Am
namespace Go.Proofs.YtinnphmnhmdcgaaGreat.Am
set_option maxHeartbeats 16000000
set_option maxRecDepth 100000
open Go.RowKit
def M_b_Clip (a0 : Int) (a1 : Int) (a2 : Int) : Option (Int) :=
  some (max a1 (min a0 a2))
theorem A_b_Clip (a0 : Int) (a1 : Int) (a2 : Int) {r1 : Int} (h : M_b_Clip a0 a1 a2 = some r1) : ACall cx 29 [.c (.int .i64 a0), .c (.int .i64 a1), .c (.int .i64 a2)] (.c (.int .i64 r1)) := by
  refine aOf Tryz.func29 rfl (by decide) rfl (Nat.le_of_ble_eq_true rfl) ?_; intro _; unfold M_b_Clip at h; refine aSR ?_; intro _; refine dr ?_; refine aSR ?_; intro _; refine ⟨_, lf_min rfl (Nat.le_of_ble_eq_true rfl) rfl rfl, ?_⟩; intro _; refine ⟨_, lf_max rfl (Nat.le_of_ble_eq_true rfl) rfl rfl, ?_⟩; intro _; refine dr ?_; refine aRt ?_; intro _; obtain rfl := inj1 h; exact ca_0
def M_r05_large_L1 (y69 : GOp) : Nat → Bool → Int → Option (Bool)
  | 0, _, _ => none
  | k78 + 1, v76, v77 =>
    sel (decide (v77 < ((y69.Effs.map cGEffect).length : Int)))
     (ix y69.Effs v77 (fun y79 =>
       sel v76
        (M_r05_large_L1 y69 k78 true (IntKind.i64.wrap (v77 + 1)))
        (M_r05_large_L1 y69 k78 (decide (((y79.When.map cF).length : Int) > 64)) (IntKind.i64.wrap (v77 + 1)))))
     (some v76)
def M_r05_large_L2 (a0 : GTask) : Nat → Bool → Int → Option (Bool)
  | 0, _, _ => none
  | k55 + 1, v53, v54 =>
    sel (decide (v54 < ((a0.Ops.map cGOp).length : Int)))
     (ob1 (ix a0.Ops v54 (fun y69 =>
        ob1 (sel v53
          (some true)
          (sel (decide (((y69.Pre.map cF).length : Int) > 64))
            (some true)
            (some (decide (((y69.Effs.map cGEffect).length : Int) > 64)))) : Option (Bool))
         (fun v70 => M_r05_large_L1 y69 ((((y69.Effs.map cGEffect).length : Int)).toNat + 1) v70 0)) : Option (Bool))
       (fun v67 => M_r05_large_L2 a0 k55 v67 (IntKind.i64.wrap (v54 + 1))))
     (some v53)
def M_r05_large (a0 : GTask) : Option (Bool) :=
  ob1 (sel (decide (((a0.Vars.map cI).length : Int) > 64))
    (some true)
    (sel (decide (((a0.Ops.map cGOp).length : Int) > 4096))
      (some true)
      (some (decide (((a0.Goal.map cF).length : Int) > 64)))) : Option (Bool))
   (fun v1 => M_r05_large_L2 a0 ((((a0.Ops.map cGOp).length : Int)).toNat + 1) v1 0)
theorem A_r05_large (a0 : GTask) {r1 : Bool} (h : M_r05_large a0 = some r1) : ACall cx 60 [.agg [.sl 1 (a0.Vars.map cI), .sl 1 (a0.Init.map cI), .sl 2 (a0.Goal.map cF), .sl 4 (a0.Ops.map cGOp)]] (.c (.bool r1)) := by
  refine aOf Tryz.func60 rfl (by decide) rfl (Nat.le_of_ble_eq_true rfl) ?_; intro _; unfold M_r05_large at h; refine aSR ?_; intro _; refine dr ?_; obtain ⟨o1, h, hK2⟩ := ob1_ok h; refine awp_cut (α := Bool) (fun v1 => mkS 61 [(1, .ptr 1 0 0 0), (3, .c (.bool v1))] [(1, ⟨26, 4, true, [[.sl 1 (a0.Vars.map cI), .sl 1 (a0.Init.map cI), .sl 2 (a0.Goal.map cF), .sl 4 (a0.Ops.map cGOp)]]⟩)]) (fun v => o1 = v) ?_ ?_
  · refine aRg ?_; intro _; refine spf h (fun c3 h => ?_) (fun c3 h => ?_)
    · intro _; refine spf h (fun c4 h => ?_) (fun c4 h => ?_)
      · intro _; refine dr ?_; refine ⟨(decide (((a0.Goal.map cF).length : Int) > 64)), (Option.some.inj h).symm, ?_⟩; exact ca_0
      · intro _; refine dr ?_; refine ⟨true, (Option.some.inj h).symm, ?_⟩; exact ca_0
    · intro _; refine dr ?_; refine ⟨true, (Option.some.inj h).symm, ?_⟩; exact ca_0
  · rintro v1 ho; have ho := ho.symm; subst ho; intro _; replace h := hK2; refine aSq ?_; refine aSR ?_; intro _; refine dr ?_; refine aBk ?_; refine awp_loop (α := Nat × Bool × Int) (fun x => mkS 61 [(3, .c (.bool x.2.1)), (25, .sl 4 (a0.Ops.map cGOp)), (26, .c (.int .i64 ((a0.Ops.map cGOp).length : Int))), (27, .c (.int .i64 x.2.2))] []) (fun x => M_r05_large_L2 a0 x.1 x.2.1 x.2.2 = some r1) (fun x => x.1) ((((a0.Ops.map cGOp).length : Int)).toNat + 1, v1, 0) h ?_ ?_
    · exact ca_0
    · intro x5 h; intro _; obtain ⟨k55, m6, h⟩ := succ_of (f := fun n => M_r05_large_L2 a0 n x5.2.1 x5.2.2) rfl h; replace h : M_r05_large_L2 a0 (k55 + 1) x5.2.1 x5.2.2 = some r1 := h; rw [M_r05_large_L2] at h; refine aSR ?_; intro _; refine dr ?_; refine aSq ?_; refine aCd ?_; intro _; refine spl h (fun c7 h => ?_) (fun c7 h => ?_)
      · refine aSk ?_; obtain ⟨o8, h, hK9⟩ := ob1_ok h; refine awp_cut (α := Bool) (fun v67 => mkS 61 [(3, .c (.bool v67)), (25, .sl 4 (a0.Ops.map cGOp)), (26, .c (.int .i64 ((a0.Ops.map cGOp).length : Int))), (27, .c (.int .i64 x5.2.2))] []) (fun v => o8 = v) ?_ ?_
        · refine aBk ?_; refine aSR ?_; intro _; obtain ⟨y69, w10, q11, h⟩ := ix_ok h; refine Exists.intro (cGOp y69) (And.intro (map_at' w10) ?_); intro _; refine pr ?_; refine dr ?_; obtain ⟨o12, h, hK13⟩ := ob1_ok h; refine awp_cut (α := Bool) (fun v70 => mkS 61 [(3, .c (.bool v70)), (5, .ptr 5 0 0 0), (25, .sl 4 (a0.Ops.map cGOp)), (26, .c (.int .i64 ((a0.Ops.map cGOp).length : Int))), (27, .c (.int .i64 x5.2.2))] [(5, ⟨60, 4, true, [[.c (.string y69.Name), .c (.int .i64 y69.Cost), .sl 2 (y69.Pre.map cF), .sl 3 (y69.Effs.map cGEffect)]]⟩)]) (fun v => o12 = v) ?_ ?_
          · refine aRg ?_; intro _; refine spf h (fun c14 h => ?_) (fun c14 h => ?_)
            · intro _; refine spf h (fun c15 h => ?_) (fun c15 h => ?_)
              · intro _; refine dr ?_; refine ⟨(decide (((y69.Effs.map cGEffect).length : Int) > 64)), (Option.some.inj h).symm, ?_⟩; exact ca_0
              · intro _; refine dr ?_; refine ⟨true, (Option.some.inj h).symm, ?_⟩; exact ca_0
            · intro _; refine dr ?_; refine ⟨true, (Option.some.inj h).symm, ?_⟩; exact ca_0
          · rintro v70 ho; have ho := ho.symm; subst ho; intro _; replace h := hK13; refine aSR ?_; intro _; refine dr ?_; refine aBk ?_; refine awp_loop (α := Nat × Bool × Int) (fun x => mkS 61 [(3, .c (.bool x.2.1)), (25, .sl 4 (a0.Ops.map cGOp)), (26, .c (.int .i64 ((a0.Ops.map cGOp).length : Int))), (27, .c (.int .i64 x5.2.2)), (45, .sl 3 (y69.Effs.map cGEffect)), (46, .c (.int .i64 ((y69.Effs.map cGEffect).length : Int))), (47, .c (.int .i64 x.2.2))] []) (fun x => M_r05_large_L1 y69 x.1 x.2.1 x.2.2 = some o8) (fun x => x.1) ((((y69.Effs.map cGEffect).length : Int)).toNat + 1, v70, 0) h ?_ ?_
            · exact ca_0
            · intro x16 h; intro _; obtain ⟨k78, m17, h⟩ := succ_of (f := fun n => M_r05_large_L1 y69 n x16.2.1 x16.2.2) rfl h; replace h : M_r05_large_L1 y69 (k78 + 1) x16.2.1 x16.2.2 = some o8 := h; rw [M_r05_large_L1] at h; refine aSR ?_; intro _; refine dr ?_; refine aSq ?_; refine aCd ?_; intro _; refine spl h (fun c18 h => ?_) (fun c18 h => ?_)
              · refine aSk ?_; refine aSq ?_; refine aBk ?_; refine aSR ?_; intro _; obtain ⟨y79, w19, q20, h⟩ := ix_ok h; refine Exists.intro (cGEffect y79) (And.intro (map_at' w19) ?_); intro _; refine pr ?_; refine dr ?_; refine aRg ?_; intro _; refine spf h (fun c21 h => ?_) (fun c21 h => ?_)
                · intro _; refine dr ?_; refine aRg ?_; intro _; refine dr ?_; refine ⟨(k78, (decide (((y79.When.map cF).length : Int) > 64)), (IntKind.i64.wrap (x16.2.2 + 1))), h, ltS m17, ?_⟩; exact ca_0
                · intro _; refine dr ?_; refine aRg ?_; intro _; refine dr ?_; refine ⟨(k78, true, (IntKind.i64.wrap (x16.2.2 + 1))), h, ltS m17, ?_⟩; exact ca_0
              · refine aEx ?_; refine ⟨x16.2.1, (Option.some.inj h).symm, ?_⟩; exact ca_0
        · rintro v67 ho; have ho := ho.symm; subst ho; intro _; replace h := hK9; refine aRg ?_; intro _; refine dr ?_; refine ⟨(k55, v67, (IntKind.i64.wrap (x5.2.2 + 1))), h, ltS m6, ?_⟩; exact ca_0
      · refine aEx ?_; refine aSR ?_; intro _; refine dr ?_; refine aRt ?_; intro _; obtain rfl := inj1 h; exact ca_0
def M_r05_outside_L1 (a0 : GTask) : Nat → Bool → Int → Option (Bool)
  | 0, _, _ => none
  | k17 + 1, v15, v16 =>
    sel (decide (v16 < ((a0.Vars.map cI).length : Int)))
     (ix a0.Vars v16 (fun y18 =>
       sel v15
        (M_r05_outside_L1 a0 k17 true (IntKind.i64.wrap (v16 + 1)))
        (sel (decide (y18 < 1))
          (M_r05_outside_L1 a0 k17 true (IntKind.i64.wrap (v16 + 1)))
          (M_r05_outside_L1 a0 k17 (decide (y18 > 64)) (IntKind.i64.wrap (v16 + 1))))))
     (some v15)
def M_r05_outside_L2 (a0 : GTask) : Nat → Bool → Int → Option (Bool)
  | 0, _, _ => none
  | k25 + 1, v23, v24 =>
    sel (decide (v24 < ((a0.Ops.map cGOp).length : Int)))
     (ix a0.Ops v24 (fun y26 =>
       sel v23
        (M_r05_outside_L2 a0 k25 true (IntKind.i64.wrap (v24 + 1)))
        (sel (decide (y26.Cost < 0))
          (M_r05_outside_L2 a0 k25 true (IntKind.i64.wrap (v24 + 1)))
          (M_r05_outside_L2 a0 k25 (decide (y26.Cost > 1048576)) (IntKind.i64.wrap (v24 + 1))))))
     (some v23)
def M_r05_outside (a0 : GTask) : Option (Bool) :=
  ob1 (M_r05_outside_L1 a0 ((((a0.Vars.map cI).length : Int)).toNat + 1) false 0 : Option (Bool))
   (fun v9 => M_r05_outside_L2 a0 ((((a0.Ops.map cGOp).length : Int)).toNat + 1) v9 0)
theorem A_r05_outside (a0 : GTask) {r1 : Bool} (h : M_r05_outside a0 = some r1) : ACall cx 61 [.agg [.sl 1 (a0.Vars.map cI), .sl 1 (a0.Init.map cI), .sl 2 (a0.Goal.map cF), .sl 4 (a0.Ops.map cGOp)]] (.c (.bool r1)) := by
  refine aOf Tryz.func61 rfl (by decide) rfl (Nat.le_of_ble_eq_true rfl) ?_; intro _; unfold M_r05_outside at h; refine aSR ?_; intro _; refine dr ?_; refine aSR ?_; intro _; refine dr ?_; obtain ⟨o1, h, hK2⟩ := ob1_ok h; refine awp_cut (α := Bool) (fun v9 => mkS 45 [(1, .ptr 1 0 0 0), (3, .c (.bool v9))] [(1, ⟨26, 4, true, [[.sl 1 (a0.Vars.map cI), .sl 1 (a0.Init.map cI), .sl 2 (a0.Goal.map cF), .sl 4 (a0.Ops.map cGOp)]]⟩)]) (fun v => o1 = v) ?_ ?_
  · refine aSR ?_; intro _; refine dr ?_; refine aBk ?_; refine awp_loop (α := Nat × Bool × Int) (fun x => mkS 45 [(1, .ptr 1 0 0 0), (3, .c (.bool x.2.1)), (9, .sl 1 (a0.Vars.map cI)), (10, .c (.int .i64 ((a0.Vars.map cI).length : Int))), (11, .c (.int .i64 x.2.2))] [(1, ⟨26, 4, true, [[.sl 1 (a0.Vars.map cI), .sl 1 (a0.Init.map cI), .sl 2 (a0.Goal.map cF), .sl 4 (a0.Ops.map cGOp)]]⟩)]) (fun x => M_r05_outside_L1 a0 x.1 x.2.1 x.2.2 = some o1) (fun x => x.1) ((((a0.Vars.map cI).length : Int)).toNat + 1, false, 0) h ?_ ?_
    · exact ca_0
    · intro x3 h; intro _; obtain ⟨k17, m4, h⟩ := succ_of (f := fun n => M_r05_outside_L1 a0 n x3.2.1 x3.2.2) rfl h; replace h : M_r05_outside_L1 a0 (k17 + 1) x3.2.1 x3.2.2 = some o1 := h; rw [M_r05_outside_L1] at h; refine aSR ?_; intro _; refine dr ?_; refine aSq ?_; refine aCd ?_; intro _; refine spl h (fun c5 h => ?_) (fun c5 h => ?_)
      · refine aSk ?_; refine aSq ?_; refine aBk ?_; refine aSR ?_; intro _; obtain ⟨y18, w6, q7, h⟩ := ix_ok h; refine Exists.intro (cI y18) (And.intro (map_at' w6) ?_); intro _; refine pr ?_; refine dr ?_; refine aRg ?_; intro _; refine spf h (fun c8 h => ?_) (fun c8 h => ?_)
        · intro _; refine spf h (fun c9 h => ?_) (fun c9 h => ?_)
          · intro _; refine dr ?_; refine aRg ?_; intro _; refine dr ?_; refine ⟨(k17, (decide (y18 > 64)), (IntKind.i64.wrap (x3.2.2 + 1))), h, ltS m4, ?_⟩; exact ca_0
          · intro _; refine dr ?_; refine aRg ?_; intro _; refine dr ?_; refine ⟨(k17, true, (IntKind.i64.wrap (x3.2.2 + 1))), h, ltS m4, ?_⟩; exact ca_0
        · intro _; refine dr ?_; refine aRg ?_; intro _; refine dr ?_; refine ⟨(k17, true, (IntKind.i64.wrap (x3.2.2 + 1))), h, ltS m4, ?_⟩; exact ca_0
      · refine aEx ?_; refine ⟨x3.2.1, (Option.some.inj h).symm, ?_⟩; exact ca_0
  · rintro v9 ho; have ho := ho.symm; subst ho; intro _; replace h := hK2; refine aSq ?_; refine aSR ?_; intro _; refine dr ?_; refine aBk ?_; refine awp_loop (α := Nat × Bool × Int) (fun x => mkS 45 [(3, .c (.bool x.2.1)), (26, .sl 4 (a0.Ops.map cGOp)), (27, .c (.int .i64 ((a0.Ops.map cGOp).length : Int))), (28, .c (.int .i64 x.2.2))] []) (fun x => M_r05_outside_L2 a0 x.1 x.2.1 x.2.2 = some r1) (fun x => x.1) ((((a0.Ops.map cGOp).length : Int)).toNat + 1, v9, 0) h ?_ ?_
    · exact ca_0
    · intro x10 h; intro _; obtain ⟨k25, m11, h⟩ := succ_of (f := fun n => M_r05_outside_L2 a0 n x10.2.1 x10.2.2) rfl h; replace h : M_r05_outside_L2 a0 (k25 + 1) x10.2.1 x10.2.2 = some r1 := h; rw [M_r05_outside_L2] at h; refine aSR ?_; intro _; refine dr ?_; refine aSq ?_; refine aCd ?_; intro _; refine spl h (fun c12 h => ?_) (fun c12 h => ?_)
      · refine aSk ?_; refine aSq ?_; refine aBk ?_; refine aSR ?_; intro _; obtain ⟨y26, w13, q14, h⟩ := ix_ok h; refine Exists.intro (cGOp y26) (And.intro (map_at' w13) ?_); intro _; refine pr ?_; refine dr ?_; refine aRg ?_; intro _; refine spf h (fun c15 h => ?_) (fun c15 h => ?_)
        · intro _; refine spf h (fun c16 h => ?_) (fun c16 h => ?_)
          · intro _; refine dr ?_; refine aRg ?_; intro _; refine dr ?_; refine ⟨(k25, (decide (y26.Cost > 1048576)), (IntKind.i64.wrap (x10.2.2 + 1))), h, ltS m11, ?_⟩; exact ca_0
          · intro _; refine dr ?_; refine aRg ?_; intro _; refine dr ?_; refine ⟨(k25, true, (IntKind.i64.wrap (x10.2.2 + 1))), h, ltS m11, ?_⟩; exact ca_0
        · intro _; refine dr ?_; refine aRg ?_; intro _; refine dr ?_; refine ⟨(k25, true, (IntKind.i64.wrap (x10.2.2 + 1))), h, ltS m11, ?_⟩; exact ca_0
      · refine aEx ?_; refine aSR ?_; intro _; refine dr ?_; refine aRt ?_; intro _; obtain rfl := inj1 h; exact ca_0
def M_r05_malformed_L1 (a0 : GTask) (y113 : GOp) : Nat → Bool → Int → Option (Bool)
  | 0, _, _ => none
  | k128 + 1, v126, v127 =>
    sel (decide (v127 < ((y113.Effs.map cGEffect).length : Int)))
     (ix y113.Effs v127 (fun y129 =>
       sel v126
        (M_r05_malformed_L1 a0 y113 k128 true (IntKind.i64.wrap (v127 + 1)))
        (ob1 (M_b_Proper a0.Vars y129.When) (fun z130 =>
          sel (!z130)
           (M_r05_malformed_L1 a0 y113 k128 true (IntKind.i64.wrap (v127 + 1)))
           (ob1 (M_b_Proper a0.Vars [(y129.Var, y129.Val)]) (fun z131 =>
             M_r05_malformed_L1 a0 y113 k128 (!z131) (IntKind.i64.wrap (v127 + 1))))))))
     (some v126)
def M_r05_malformed_L2 (a0 : GTask) : Nat → Bool → Int → Option (Bool)
  | 0, _, _ => none
  | k91 + 1, v89, v90 =>
    sel (decide (v90 < ((a0.Ops.map cGOp).length : Int)))
     (ob1 (ix a0.Ops v90 (fun y113 =>
        ob1 (sel v89
          (some true)
          (ob1 (M_b_Proper a0.Vars y113.Pre) (fun z117 =>
            some (!z117))) : Option (Bool))
         (fun v115 => M_r05_malformed_L1 a0 y113 ((((y113.Effs.map cGEffect).length : Int)).toNat + 1) v115 0)) : Option (Bool))
       (fun v111 => M_r05_malformed_L2 a0 k91 v111 (IntKind.i64.wrap (v90 + 1))))
     (some v89)
def M_r05_malformed (a0 : GTask) : Option (Bool) :=
  ob1 (ob1 (M_b_State a0.Vars a0.Init) (fun z5 =>
    sel (!z5)
     (some true)
     (ob1 (M_b_Proper a0.Vars a0.Goal) (fun z6 =>
       some (!z6)))) : Option (Bool))
   (fun v3 => M_r05_malformed_L2 a0 ((((a0.Ops.map cGOp).length : Int)).toNat + 1) v3 0)
theorem A_r05_malformed (a0 : GTask) {r1 : Bool} (h : M_r05_malformed a0 = some r1) : ACall cx 62 [.agg [.sl 1 (a0.Vars.map cI), .sl 1 (a0.Init.map cI), .sl 2 (a0.Goal.map cF), .sl 4 (a0.Ops.map cGOp)]] (.c (.bool r1)) := by
  refine aOf Tryz.func62 rfl (by decide) rfl (Nat.le_of_ble_eq_true rfl) ?_; intro _; unfold M_r05_malformed at h; refine aSR ?_; intro _; refine dr ?_; obtain ⟨o1, h, hK2⟩ := ob1_ok h; refine awp_cut (α := Bool) (fun v3 => mkS 69 [(1, .ptr 1 0 0 0), (3, .c (.bool v3))] [(1, ⟨26, 4, true, [[.sl 1 (a0.Vars.map cI), .sl 1 (a0.Init.map cI), .sl 2 (a0.Goal.map cF), .sl 4 (a0.Ops.map cGOp)]]⟩)]) (fun v => o1 = v) ?_ ?_
  · refine aRg ?_; intro _; obtain ⟨z5, u3, h⟩ := ob1_ok h; refine cl rfl (A_b_State a0.Vars a0.Init u3) ?_; intro _; refine spf h (fun c4 h => ?_) (fun c4 h => ?_)
    · intro _; obtain ⟨z6, u5, h⟩ := ob1_ok h; refine cl rfl (A_b_Proper a0.Vars a0.Goal u5) ?_; intro _; refine dr ?_; refine ⟨(!z6), (Option.some.inj h).symm, ?_⟩; exact ca_0
    · intro _; refine dr ?_; refine ⟨true, (Option.some.inj h).symm, ?_⟩; exact ca_0
  · rintro v3 ho; have ho := ho.symm; subst ho; intro _; replace h := hK2; refine aSq ?_; refine aSR ?_; intro _; refine dr ?_; refine aBk ?_; refine awp_loop (α := Nat × Bool × Int) (fun x => mkS 69 [(1, .ptr 1 0 0 0), (3, .c (.bool x.2.1)), (23, .sl 4 (a0.Ops.map cGOp)), (24, .c (.int .i64 ((a0.Ops.map cGOp).length : Int))), (25, .c (.int .i64 x.2.2))] [(1, ⟨26, 4, true, [[.sl 1 (a0.Vars.map cI), .sl 1 (a0.Init.map cI), .sl 2 (a0.Goal.map cF), .sl 4 (a0.Ops.map cGOp)]]⟩)]) (fun x => M_r05_malformed_L2 a0 x.1 x.2.1 x.2.2 = some r1) (fun x => x.1) ((((a0.Ops.map cGOp).length : Int)).toNat + 1, v3, 0) h ?_ ?_
    · exact ca_0
    · intro x6 h; intro _; obtain ⟨k91, m7, h⟩ := succ_of (f := fun n => M_r05_malformed_L2 a0 n x6.2.1 x6.2.2) rfl h; replace h : M_r05_malformed_L2 a0 (k91 + 1) x6.2.1 x6.2.2 = some r1 := h; rw [M_r05_malformed_L2] at h; refine aSR ?_; intro _; refine dr ?_; refine aSq ?_; refine aCd ?_; intro _; refine spl h (fun c8 h => ?_) (fun c8 h => ?_)
      · refine aSk ?_; obtain ⟨o9, h, hK10⟩ := ob1_ok h; refine awp_cut (α := Bool) (fun v111 => mkS 69 [(1, .ptr 1 0 0 0), (3, .c (.bool v111)), (23, .sl 4 (a0.Ops.map cGOp)), (24, .c (.int .i64 ((a0.Ops.map cGOp).length : Int))), (25, .c (.int .i64 x6.2.2))] [(1, ⟨26, 4, true, [[.sl 1 (a0.Vars.map cI), .sl 1 (a0.Init.map cI), .sl 2 (a0.Goal.map cF), .sl 4 (a0.Ops.map cGOp)]]⟩)]) (fun v => o9 = v) ?_ ?_
        · refine aBk ?_; refine aSR ?_; intro _; obtain ⟨y113, w11, q12, h⟩ := ix_ok h; refine Exists.intro (cGOp y113) (And.intro (map_at' w11) ?_); intro _; refine pr ?_; refine dr ?_; obtain ⟨o13, h, hK14⟩ := ob1_ok h; refine awp_cut (α := Bool) (fun v115 => mkS 69 [(1, .ptr 1 0 0 0), (3, .c (.bool v115)), (5, .ptr 5 0 0 0), (23, .sl 4 (a0.Ops.map cGOp)), (24, .c (.int .i64 ((a0.Ops.map cGOp).length : Int))), (25, .c (.int .i64 x6.2.2))] [(1, ⟨26, 4, true, [[.sl 1 (a0.Vars.map cI), .sl 1 (a0.Init.map cI), .sl 2 (a0.Goal.map cF), .sl 4 (a0.Ops.map cGOp)]]⟩), (5, ⟨60, 4, true, [[.c (.string y113.Name), .c (.int .i64 y113.Cost), .sl 2 (y113.Pre.map cF), .sl 3 (y113.Effs.map cGEffect)]]⟩)]) (fun v => o13 = v) ?_ ?_
          · refine aRg ?_; intro _; refine spf h (fun c15 h => ?_) (fun c15 h => ?_)
            · intro _; obtain ⟨z117, u16, h⟩ := ob1_ok h; refine cl rfl (A_b_Proper a0.Vars y113.Pre u16) ?_; intro _; refine dr ?_; refine ⟨(!z117), (Option.some.inj h).symm, ?_⟩; exact ca_0
            · intro _; refine dr ?_; refine ⟨true, (Option.some.inj h).symm, ?_⟩; exact ca_0
          · rintro v115 ho; have ho := ho.symm; subst ho; intro _; replace h := hK14; refine aSR ?_; intro _; refine dr ?_; refine aBk ?_; refine awp_loop (α := Nat × Bool × Int) (fun x => mkS 69 [(1, .ptr 1 0 0 0), (3, .c (.bool x.2.1)), (23, .sl 4 (a0.Ops.map cGOp)), (24, .c (.int .i64 ((a0.Ops.map cGOp).length : Int))), (25, .c (.int .i64 x6.2.2)), (39, .sl 3 (y113.Effs.map cGEffect)), (40, .c (.int .i64 ((y113.Effs.map cGEffect).length : Int))), (41, .c (.int .i64 x.2.2))] [(1, ⟨26, 4, true, [[.sl 1 (a0.Vars.map cI), .sl 1 (a0.Init.map cI), .sl 2 (a0.Goal.map cF), .sl 4 (a0.Ops.map cGOp)]]⟩)]) (fun x => M_r05_malformed_L1 a0 y113 x.1 x.2.1 x.2.2 = some o9) (fun x => x.1) ((((y113.Effs.map cGEffect).length : Int)).toNat + 1, v115, 0) h ?_ ?_
            · exact ca_0
            · intro x17 h; intro _; obtain ⟨k128, m18, h⟩ := succ_of (f := fun n => M_r05_malformed_L1 a0 y113 n x17.2.1 x17.2.2) rfl h; replace h : M_r05_malformed_L1 a0 y113 (k128 + 1) x17.2.1 x17.2.2 = some o9 := h; rw [M_r05_malformed_L1] at h; refine aSR ?_; intro _; refine dr ?_; refine aSq ?_; refine aCd ?_; intro _; refine spl h (fun c19 h => ?_) (fun c19 h => ?_)
              · refine aSk ?_; refine aSq ?_; refine aBk ?_; refine aSR ?_; intro _; obtain ⟨y129, w20, q21, h⟩ := ix_ok h; refine Exists.intro (cGEffect y129) (And.intro (map_at' w20) ?_); intro _; refine pr ?_; refine dr ?_; refine aRg ?_; intro _; refine spf h (fun c22 h => ?_) (fun c22 h => ?_)
                · intro _; obtain ⟨z130, u23, h⟩ := ob1_ok h; refine cl rfl (A_b_Proper a0.Vars y129.When u23) ?_; intro _; refine spf h (fun c24 h => ?_) (fun c24 h => ?_)
                  · intro _; obtain ⟨z131, u25, h⟩ := ob1_ok h; refine clb [62] rfl rfl (A_b_Proper a0.Vars [(y129.Var, y129.Val)] u25) ?_; intro _; refine dr ?_; refine aRg ?_; intro _; refine dr ?_; refine ⟨(k128, (!z131), (IntKind.i64.wrap (x17.2.2 + 1))), h, ltS m18, ?_⟩; exact ca_0
                  · intro _; refine dr ?_; refine aRg ?_; intro _; refine dr ?_; refine ⟨(k128, true, (IntKind.i64.wrap (x17.2.2 + 1))), h, ltS m18, ?_⟩; exact ca_0
                · intro _; refine dr ?_; refine aRg ?_; intro _; refine dr ?_; refine ⟨(k128, true, (IntKind.i64.wrap (x17.2.2 + 1))), h, ltS m18, ?_⟩; exact ca_0
              · refine aEx ?_; refine ⟨x17.2.1, (Option.some.inj h).symm, ?_⟩; exact ca_0
        · rintro v111 ho; have ho := ho.symm; subst ho; intro _; replace h := hK10; refine aRg ?_; intro _; refine dr ?_; refine ⟨(k91, v111, (IntKind.i64.wrap (x6.2.2 + 1))), h, ltS m7, ?_⟩; exact ca_0
      · refine aEx ?_; refine aSR ?_; intro _; refine dr ?_; refine aRt ?_; intro _; obtain rfl := inj1 h; exact ca_0
def M_r05_misnamed_L1 (y57 : GOp) : Nat → Bool → Int → Option (Bool)
  | 0, _, _ => none
  | k64 + 1, v62, v63 =>
    sel (decide (v63 < (y57.Name.size : Int)))
     (sel v62
       (M_r05_misnamed_L1 y57 k64 true (IntKind.i64.wrap (v63 + 1)))
       (sel (decide ((byt y57.Name v63) < 32))
         (grd (0 ≤ v63) (grd (v63 < (y57.Name.size : Int)) (M_r05_misnamed_L1 y57 k64 true (IntKind.i64.wrap (v63 + 1)))))
         (grd (0 ≤ v63) (grd (v63 < (y57.Name.size : Int)) (M_r05_misnamed_L1 y57 k64 (decide ((byt y57.Name v63) > 126)) (IntKind.i64.wrap (v63 + 1)))))))
     (some v62)
def M_r05_misnamed_L2 (a0 : GTask) : Nat → Bool → Int → Option (Bool)
  | 0, _, _ => none
  | k46 + 1, v44, v45 =>
    sel (decide (v45 < ((a0.Ops.map cGOp).length : Int)))
     (ob1 (ix a0.Ops v45 (fun y57 =>
        ob1 (sel v44
          (some true)
          (some (decide ((y57.Name.size : Int) > 256))) : Option (Bool))
         (fun v58 => M_r05_misnamed_L1 y57 (((y57.Name.size : Int)).toNat + 1) v58 0)) : Option (Bool))
       (fun v55 => M_r05_misnamed_L2 a0 k46 v55 (IntKind.i64.wrap (v45 + 1))))
     (some v44)
def M_r05_misnamed (a0 : GTask) : Option (Bool) :=
  M_r05_misnamed_L2 a0 ((((a0.Ops.map cGOp).length : Int)).toNat + 1) false 0
theorem A_r05_misnamed (a0 : GTask) {r1 : Bool} (h : M_r05_misnamed a0 = some r1) : ACall cx 63 [.agg [.sl 1 (a0.Vars.map cI), .sl 1 (a0.Init.map cI), .sl 2 (a0.Goal.map cF), .sl 4 (a0.Ops.map cGOp)]] (.c (.bool r1)) := by
  refine aOf Tryz.func63 rfl (by decide) rfl (Nat.le_of_ble_eq_true rfl) ?_; intro _; unfold M_r05_misnamed at h; refine aSR ?_; intro _; refine dr ?_; refine aSR ?_; intro _; refine dr ?_; refine aSq ?_; refine aSR ?_; intro _; refine dr ?_; refine aBk ?_; refine awp_loop (α := Nat × Bool × Int) (fun x => mkS 45 [(3, .c (.bool x.2.1)), (8, .sl 4 (a0.Ops.map cGOp)), (9, .c (.int .i64 ((a0.Ops.map cGOp).length : Int))), (10, .c (.int .i64 x.2.2))] []) (fun x => M_r05_misnamed_L2 a0 x.1 x.2.1 x.2.2 = some r1) (fun x => x.1) ((((a0.Ops.map cGOp).length : Int)).toNat + 1, false, 0) h ?_ ?_
  · exact ca_0
  · intro x1 h; intro _; obtain ⟨k46, m2, h⟩ := succ_of (f := fun n => M_r05_misnamed_L2 a0 n x1.2.1 x1.2.2) rfl h; replace h : M_r05_misnamed_L2 a0 (k46 + 1) x1.2.1 x1.2.2 = some r1 := h; rw [M_r05_misnamed_L2] at h; refine aSR ?_; intro _; refine dr ?_; refine aSq ?_; refine aCd ?_; intro _; refine spl h (fun c3 h => ?_) (fun c3 h => ?_)
    · refine aSk ?_; obtain ⟨o4, h, hK5⟩ := ob1_ok h; refine awp_cut (α := Bool) (fun v55 => mkS 45 [(3, .c (.bool v55)), (8, .sl 4 (a0.Ops.map cGOp)), (9, .c (.int .i64 ((a0.Ops.map cGOp).length : Int))), (10, .c (.int .i64 x1.2.2))] []) (fun v => o4 = v) ?_ ?_
      · refine aBk ?_; refine aSR ?_; intro _; obtain ⟨y57, w6, q7, h⟩ := ix_ok h; refine Exists.intro (cGOp y57) (And.intro (map_at' w6) ?_); intro _; refine pr ?_; refine dr ?_; obtain ⟨o8, h, hK9⟩ := ob1_ok h; refine awp_cut (α := Bool) (fun v58 => mkS 45 [(3, .c (.bool v58)), (5, .ptr 5 0 0 0), (8, .sl 4 (a0.Ops.map cGOp)), (9, .c (.int .i64 ((a0.Ops.map cGOp).length : Int))), (10, .c (.int .i64 x1.2.2))] [(5, ⟨60, 4, true, [[.c (.string y57.Name), .c (.int .i64 y57.Cost), .sl 2 (y57.Pre.map cF), .sl 3 (y57.Effs.map cGEffect)]]⟩)]) (fun v => o8 = v) ?_ ?_
        · refine aRg ?_; intro _; refine spf h (fun c10 h => ?_) (fun c10 h => ?_)
          · intro _; refine dr ?_; refine ⟨(decide ((y57.Name.size : Int) > 256)), (Option.some.inj h).symm, ?_⟩; exact ca_0
          · intro _; refine dr ?_; refine ⟨true, (Option.some.inj h).symm, ?_⟩; exact ca_0
        · rintro v58 ho; have ho := ho.symm; subst ho; intro _; replace h := hK9; refine aSR ?_; intro _; refine dr ?_; refine aBk ?_; refine awp_loop (α := Nat × Bool × Int) (fun x => mkS 45 [(3, .c (.bool x.2.1)), (5, .ptr 5 0 0 0), (8, .sl 4 (a0.Ops.map cGOp)), (9, .c (.int .i64 ((a0.Ops.map cGOp).length : Int))), (10, .c (.int .i64 x1.2.2)), (23, .c (.int .i64 (y57.Name.size : Int))), (24, .c (.int .i64 x.2.2))] [(5, ⟨60, 4, true, [[.c (.string y57.Name), .c (.int .i64 y57.Cost), .sl 2 (y57.Pre.map cF), .sl 3 (y57.Effs.map cGEffect)]]⟩)]) (fun x => M_r05_misnamed_L1 y57 x.1 x.2.1 x.2.2 = some o4) (fun x => x.1) (((y57.Name.size : Int)).toNat + 1, v58, 0) h ?_ ?_
          · exact ca_0
          · intro x11 h; intro _; obtain ⟨k64, m12, h⟩ := succ_of (f := fun n => M_r05_misnamed_L1 y57 n x11.2.1 x11.2.2) rfl h; replace h : M_r05_misnamed_L1 y57 (k64 + 1) x11.2.1 x11.2.2 = some o4 := h; rw [M_r05_misnamed_L1] at h; refine aSR ?_; intro _; refine dr ?_; refine aSq ?_; refine aCd ?_; intro _; refine spl h (fun c13 h => ?_) (fun c13 h => ?_)
            · refine aSk ?_; refine aSq ?_; refine aBk ?_; refine aSR ?_; intro _; refine dr ?_; refine aRg ?_; intro _; refine spf h (fun c14 h => ?_) (fun c14 h => ?_)
              · intro _; refine spf h (fun c15 h => ?_) (fun c15 h => ?_)
                · intro _; obtain ⟨q16, h⟩ := grd_ok h; obtain ⟨q17, h⟩ := grd_ok h; refine pr ?_; refine pr ?_; refine pr ?_; refine pr ?_; refine dr ?_; refine aRg ?_; intro _; refine dr ?_; refine ⟨(k64, (decide ((byt y57.Name x11.2.2) > 126)), (IntKind.i64.wrap (x11.2.2 + 1))), h, ltS m12, ?_⟩; exact ca_0
                · intro _; obtain ⟨q18, h⟩ := grd_ok h; obtain ⟨q19, h⟩ := grd_ok h; refine pr ?_; refine pr ?_; refine dr ?_; refine aRg ?_; intro _; refine dr ?_; refine ⟨(k64, true, (IntKind.i64.wrap (x11.2.2 + 1))), h, ltS m12, ?_⟩; exact ca_0
              · intro _; refine dr ?_; refine aRg ?_; intro _; refine dr ?_; refine ⟨(k64, true, (IntKind.i64.wrap (x11.2.2 + 1))), h, ltS m12, ?_⟩; exact ca_0
            · refine aEx ?_; refine ⟨x11.2.1, (Option.some.inj h).symm, ?_⟩; exact ca_0
      · rintro v55 ho; have ho := ho.symm; subst ho; intro _; replace h := hK5; refine aRg ?_; intro _; refine dr ?_; refine ⟨(k46, v55, (IntKind.i64.wrap (x1.2.2 + 1))), h, ltS m2, ?_⟩; exact ca_0
    · refine aEx ?_; refine aSR ?_; intro _; refine dr ?_; refine aRt ?_; intro _; obtain rfl := inj1 h; exact ca_0
def M_r05_Check (a0 : GTask) : Option (Int) :=
  ob1 (M_r05_large a0) (fun z1 =>
   sel z1
    (some 5)
    (ob1 (M_r05_outside a0) (fun z2 =>
      sel z2
       (some 1)
       (ob1 (M_r05_malformed a0) (fun z3 =>
         sel z3
          (some 2)
          (ob1 (M_r05_misnamed a0) (fun z4 =>
            sel z4
             (some 8)
             (some 0))))))))
theorem A_r05_Check (a0 : GTask) {r1 : Int} (h : M_r05_Check a0 = some r1) : ACall cx 30 [.agg [.sl 1 (a0.Vars.map cI), .sl 1 (a0.Init.map cI), .sl 2 (a0.Goal.map cF), .sl 4 (a0.Ops.map cGOp)]] (.c (.int .i64 r1)) := by
  refine aOf Tryz.func30 rfl (by decide) rfl (Nat.le_of_ble_eq_true rfl) ?_; intro _; unfold M_r05_Check at h; refine aSR ?_; intro _; refine dr ?_; refine aSq ?_; refine aBk ?_; refine aSR ?_; intro _; obtain ⟨z1, u1, h⟩ := ob1_ok h; refine cl rfl (A_r05_large a0 u1) ?_; intro _; refine dr ?_; refine aCd ?_; intro _; refine spl h (fun c2 h => ?_) (fun c2 h => ?_)
  · refine aSR ?_; intro _; refine dr ?_; refine aRt ?_; intro _; obtain rfl := inj1 h; exact ca_0
  · refine aSR ?_; intro _; obtain ⟨z2, u3, h⟩ := ob1_ok h; refine cl rfl (A_r05_outside a0 u3) ?_; intro _; refine dr ?_; refine aCd ?_; intro _; refine spl h (fun c4 h => ?_) (fun c4 h => ?_)
    · refine aSR ?_; intro _; refine dr ?_; refine aRt ?_; intro _; obtain rfl := inj1 h; exact ca_0
    · refine aSR ?_; intro _; obtain ⟨z3, u5, h⟩ := ob1_ok h; refine cl rfl (A_r05_malformed a0 u5) ?_; intro _; refine dr ?_; refine aCd ?_; intro _; refine spl h (fun c6 h => ?_) (fun c6 h => ?_)
      · refine aSR ?_; intro _; refine dr ?_; refine aRt ?_; intro _; obtain rfl := inj1 h; exact ca_0
      · refine aSR ?_; intro _; obtain ⟨z4, u7, h⟩ := ob1_ok h; refine cl rfl (A_r05_misnamed a0 u7) ?_; intro _; refine dr ?_; refine aCd ?_; intro _; refine spl h (fun c8 h => ?_) (fun c8 h => ?_)
        · refine aSR ?_; intro _; refine dr ?_; refine aRt ?_; intro _; obtain rfl := inj1 h; exact ca_0
        · refine aSk ?_; refine aSR ?_; intro _; refine dr ?_; refine aRt ?_; intro _; obtain rfl := inj1 h; exact ca_0
def M_l33_MutexErrors_L1 (a0 : GTask) : Nat → Int → Int → Option (Int)
  | 0, _, _ => none
  | k42 + 1, v40, v41 =>
    sel (decide (v41 < ((a0.Vars.map cI).length : Int)))
     (ix a0.Vars v41 (fun y43 =>
       ob1 (M_b_Clip y43 0 1000) (fun z44 =>
        M_l33_MutexErrors_L1 a0 k42 (IntKind.i64.wrap (v40 + z44)) (IntKind.i64.wrap (v41 + 1)))))
     (some v40)
def M_l33_MutexErrors (g : Nat) (a0 : GTask) (a1 : Fact) (a2 : List Int) : Option (Bool) :=
  ob1 (sel (decide (((a0.Vars.map cI).length : Int) > 70))
    (ob1 (M_l33_awake g) (fun z10 =>
      some (.inr z10)))
    (sel (decide (((a0.Ops.map cGOp).length : Int) > 10))
      (ob1 (M_l33_awake g) (fun z9 =>
        some (.inr z9)))
      (ob1 (M_l33_awake g) (fun z7 =>
        sel (!z7)
         (ob1 (M_l33_awake g) (fun z8 =>
           some (.inr z8)))
         (some (.inl ()))))) : Option (Unit ⊕ Bool))
   (osum
   (fun _ => ob1 (ob1 (M_stratagem_mutex_Table_Reached none a1) (fun z17 =>
       sel z17
        (some (.inr false))
        (ob1 (M_stratagem_mutex_Table_Together none a1 a1) (fun z18 =>
          sel z18
           (some (.inr false))
           (ob1 (M_stratagem_mutex_Table_Dead none a2) (fun z19 =>
             sel z19
              (some (.inr false))
              (ob1 (M_stratagem_mutex_Table_Nogoods none) (fun z20 =>
                sel (decide (((z20.map cN).length : Int) > 0))
                 (some (.inr false))
                 (some (.inl ()))))))))) : Option (Unit ⊕ Bool))
      (osum
      (fun _ => ob1 (M_l33_MutexErrors_L1 a0 ((((a0.Vars.map cI).length : Int)).toNat + 1) 0 0 : Option (Int))
         (fun v32 => ob1 (M_r05_Check a0) (fun z45 =>
            ob1 (sel (z45 == 0)
              (sel (decide (v32 > 512))
                (some 5)
                (some z45))
              (some z45) : Option (Int))
             (fun v46 => sel (v46 != 0)
                (ob2 (M_mutex_New g a0) (fun z48 z49 =>
                  ob3 (M_mutex_Prune g a0) (fun z50 z51 z52 =>
                   opM z48
                    (ob1 (M_b_Num z49) (fun z54 =>
                      sel (z54 == v46)
                       (ob1 (M_b_Num z52) (fun z55 =>
                         sel (z55 == v46)
                          (ob1 (M_b_Tasks z50 ({ Vars := [], Init := [], Goal := [], Ops := [] : GTask })) (fun z56 =>
                            sel z56
                             (some (((z51.map cI).length : Int) == 0))
                             (some false)))
                          (some false)))
                       (some false)))
                    (fun _ => some false))))
                (ob1 (M_l33_fit a0) (fun z57 =>
                  sel (!z57)
                   (some true)
                   (ob2 (M_mutex_New g a0) (fun z58 z59 =>
                     erM z59
                      (ob1 (M_b_Proper a0.Vars [a1]) (fun z61 =>
                        sel z61
                         (ob1 (M_b_State a0.Vars a2) (fun z66 =>
                           sel z66
                            (some true)
                            (ob1 (M_stratagem_mutex_Table_Dead z58 a2) (fun z67 =>
                              some (!z67)))))
                         (ob1 (M_stratagem_mutex_Table_Reached z58 a1) (fun z62 =>
                           sel (!z62)
                            (ob1 (M_stratagem_mutex_Table_Together z58 a1 a1) (fun z63 =>
                              sel (!z63)
                               (ob1 (M_b_State a0.Vars a2) (fun z64 =>
                                 sel z64
                                  (some true)
                                  (ob1 (M_stratagem_mutex_Table_Dead z58 a2) (fun z65 =>
                                    some (!z65)))))
                               (some false)))
                            (some false)))))
                      (fun _ => some false)))))))))
      (fun r15 => some r15)))
   (fun r5 => some r5))
theorem A_l33_MutexErrors (g : Nat) (a0 : GTask) (a1 : Fact) (a2 : List Int) {r1 : Bool} (h : M_l33_MutexErrors g a0 a1 a2 = some r1) : ACall cx 7 [.agg [.sl 1 (a0.Vars.map cI), .sl 1 (a0.Init.map cI), .sl 2 (a0.Goal.map cF), .sl 4 (a0.Ops.map cGOp)], .agg [.c (.int .i64 a1.1), .c (.int .i64 a1.2)], .sl 1 (a2.map cI)] (.c (.bool r1)) := by
  refine aOf Tryz.func7 rfl (by decide) rfl (Nat.le_of_ble_eq_true rfl) ?_; intro _; unfold M_l33_MutexErrors at h; refine aSR ?_; intro _; refine dr ?_; obtain ⟨o1, h, hK2⟩ := ob1_ok h; refine awp_cut (α := Unit) (fun _ => mkS 153 [(2, .sl 1 (a2.map cI)), (3, .ptr 3 0 0 0), (4, .ptr 4 0 0 0)] [(3, ⟨26, 4, true, [[.sl 1 (a0.Vars.map cI), .sl 1 (a0.Init.map cI), .sl 2 (a0.Goal.map cF), .sl 4 (a0.Ops.map cGOp)]]⟩), (4, ⟨39, 2, true, [[.c (.int .i64 a1.1), .c (.int .i64 a1.2)]]⟩)]) (fun v => o1 = (.inl v)) ?_ ?_
  · refine aSR ?_; intro _; refine spf h (fun c3 h => ?_) (fun c3 h => ?_)
    · intro _; refine spf h (fun c4 h => ?_) (fun c4 h => ?_)
      · intro _; obtain ⟨z7, u5, h⟩ := ob1_ok h; refine cl rfl (A_l33_awake g u5) ?_; intro _; refine dr ?_; refine aCd ?_; intro _; refine spl h (fun c6 h => ?_) (fun c6 h => ?_)
        · refine aSR ?_; intro _; obtain ⟨z8, u7, h⟩ := ob1_ok h; refine cl rfl (A_l33_awake g u7) ?_; intro _; refine dr ?_; refine aRt ?_; have j8 := Option.some.inj h; subst j8; replace h := (osum_r hK2); intro _; obtain rfl := inj1 h; exact ca_0
        · refine aSk ?_; refine ⟨(), (Option.some.inj h).symm, ?_⟩; exact ca_0
      · intro _; refine dr ?_; refine aCd ?_; intro _; refine litT ?_; refine aSR ?_; intro _; obtain ⟨z9, u9, h⟩ := ob1_ok h; refine cl rfl (A_l33_awake g u9) ?_; intro _; refine dr ?_; refine aRt ?_; have j10 := Option.some.inj h; subst j10; replace h := (osum_r hK2); intro _; obtain rfl := inj1 h; exact ca_0
    · intro _; refine dr ?_; refine aCd ?_; intro _; refine litT ?_; refine aSR ?_; intro _; obtain ⟨z10, u11, h⟩ := ob1_ok h; refine cl rfl (A_l33_awake g u11) ?_; intro _; refine dr ?_; refine aRt ?_; have j12 := Option.some.inj h; subst j12; replace h := (osum_r hK2); intro _; obtain rfl := inj1 h; exact ca_0
  · rintro _ ho; have ho := ho.symm; subst ho; intro _; replace h := (osum_l hK2); refine aSR ?_; intro _; refine dr ?_; obtain ⟨o13, h, hK14⟩ := ob1_ok h; refine awp_cut (α := Unit) (fun _ => mkS 153 [(2, .sl 1 (a2.map cI)), (3, .ptr 3 0 0 0), (4, .ptr 4 0 0 0)] [(3, ⟨26, 4, true, [[.sl 1 (a0.Vars.map cI), .sl 1 (a0.Init.map cI), .sl 2 (a0.Goal.map cF), .sl 4 (a0.Ops.map cGOp)]]⟩), (4, ⟨39, 2, true, [[.c (.int .i64 a1.1), .c (.int .i64 a1.2)]]⟩)]) (fun v => o13 = (.inl v)) ?_ ?_
    · refine aSR ?_; intro _; obtain ⟨z17, u15, h⟩ := ob1_ok h; refine cl rfl (A_stratagem_mutex_Table_Reached none a1 u15) ?_; intro _; refine spf h (fun c16 h => ?_) (fun c16 h => ?_)
      · intro _; obtain ⟨z18, u17, h⟩ := ob1_ok h; refine cl rfl (A_stratagem_mutex_Table_Together none a1 a1 u17) ?_; intro _; refine spf h (fun c18 h => ?_) (fun c18 h => ?_)
        · intro _; obtain ⟨z19, u19, h⟩ := ob1_ok h; refine cl rfl (A_stratagem_mutex_Table_Dead none a2 u19) ?_; intro _; refine spf h (fun c20 h => ?_) (fun c20 h => ?_)
          · intro _; obtain ⟨z20, u21, h⟩ := ob1_ok h; refine cl rfl (A_stratagem_mutex_Table_Nogoods none u21) ?_; intro _; refine dr ?_; refine aCd ?_; intro _; refine spl h (fun c22 h => ?_) (fun c22 h => ?_)
            · refine aSR ?_; intro _; refine dr ?_; refine aRt ?_; have j23 := Option.some.inj h; subst j23; replace h := (osum_r hK14); intro _; obtain rfl := inj1 h; exact ca_0
            · refine aSk ?_; refine ⟨(), (Option.some.inj h).symm, ?_⟩; exact ca_0
          · intro _; refine dr ?_; refine aCd ?_; intro _; refine litT ?_; refine aSR ?_; intro _; refine dr ?_; refine aRt ?_; have j24 := Option.some.inj h; subst j24; replace h := (osum_r hK14); intro _; obtain rfl := inj1 h; exact ca_0
        · intro _; refine dr ?_; refine aCd ?_; intro _; refine litT ?_; refine aSR ?_; intro _; refine dr ?_; refine aRt ?_; have j25 := Option.some.inj h; subst j25; replace h := (osum_r hK14); intro _; obtain rfl := inj1 h; exact ca_0
      · intro _; refine dr ?_; refine aCd ?_; intro _; refine litT ?_; refine aSR ?_; intro _; refine dr ?_; refine aRt ?_; have j26 := Option.some.inj h; subst j26; replace h := (osum_r hK14); intro _; obtain rfl := inj1 h; exact ca_0
    · rintro _ ho; have ho := ho.symm; subst ho; intro _; replace h := (osum_l hK14); refine aSR ?_; intro _; refine dr ?_; obtain ⟨o27, h, hK28⟩ := ob1_ok h; refine awp_cut (α := Int) (fun v32 => mkS 153 [(2, .sl 1 (a2.map cI)), (3, .ptr 3 0 0 0), (4, .ptr 4 0 0 0), (8, .c (.int .i64 v32))] [(3, ⟨26, 4, true, [[.sl 1 (a0.Vars.map cI), .sl 1 (a0.Init.map cI), .sl 2 (a0.Goal.map cF), .sl 4 (a0.Ops.map cGOp)]]⟩), (4, ⟨39, 2, true, [[.c (.int .i64 a1.1), .c (.int .i64 a1.2)]]⟩)]) (fun v => o27 = v) ?_ ?_
      · refine aSR ?_; intro _; refine dr ?_; refine aBk ?_; refine awp_loop (α := Nat × Int × Int) (fun x => mkS 153 [(2, .sl 1 (a2.map cI)), (3, .ptr 3 0 0 0), (4, .ptr 4 0 0 0), (8, .c (.int .i64 x.2.1)), (56, .sl 1 (a0.Vars.map cI)), (57, .c (.int .i64 ((a0.Vars.map cI).length : Int))), (58, .c (.int .i64 x.2.2))] [(3, ⟨26, 4, true, [[.sl 1 (a0.Vars.map cI), .sl 1 (a0.Init.map cI), .sl 2 (a0.Goal.map cF), .sl 4 (a0.Ops.map cGOp)]]⟩), (4, ⟨39, 2, true, [[.c (.int .i64 a1.1), .c (.int .i64 a1.2)]]⟩)]) (fun x => M_l33_MutexErrors_L1 a0 x.1 x.2.1 x.2.2 = some o27) (fun x => x.1) ((((a0.Vars.map cI).length : Int)).toNat + 1, 0, 0) h ?_ ?_
        · exact ca_0
        · intro x29 h; intro _; obtain ⟨k42, m30, h⟩ := succ_of (f := fun n => M_l33_MutexErrors_L1 a0 n x29.2.1 x29.2.2) rfl h; replace h : M_l33_MutexErrors_L1 a0 (k42 + 1) x29.2.1 x29.2.2 = some o27 := h; rw [M_l33_MutexErrors_L1] at h; refine aSR ?_; intro _; refine dr ?_; refine aSq ?_; refine aCd ?_; intro _; refine spl h (fun c31 h => ?_) (fun c31 h => ?_)
          · refine aSk ?_; refine aSq ?_; refine aBk ?_; refine aSR ?_; intro _; obtain ⟨y43, w32, q33, h⟩ := ix_ok h; refine Exists.intro (cI y43) (And.intro (map_at' w32) ?_); intro _; refine pr ?_; refine dr ?_; refine aRg ?_; intro _; obtain ⟨z44, u34, h⟩ := ob1_ok h; refine cl rfl (A_b_Clip y43 0 1000 u34) ?_; intro _; refine dr ?_; refine aRg ?_; intro _; refine dr ?_; refine ⟨(k42, (IntKind.i64.wrap (x29.2.1 + z44)), (IntKind.i64.wrap (x29.2.2 + 1))), h, ltS m30, ?_⟩; exact ca_0
          · refine aEx ?_; refine ⟨x29.2.1, (Option.some.inj h).symm, ?_⟩; exact ca_0
      · rintro v32 ho; have ho := ho.symm; subst ho; intro _; replace h := hK28; refine aSR ?_; intro _; obtain ⟨z45, u35, h⟩ := ob1_ok h; refine cl rfl (A_r05_Check a0 u35) ?_; intro _; refine dr ?_; obtain ⟨o36, h, hK37⟩ := ob1_ok h; refine awp_cut (α := Int) (fun v46 => mkS 153 [(2, .sl 1 (a2.map cI)), (3, .ptr 3 0 0 0), (4, .ptr 4 0 0 0), (11, .c (.int .i64 v46))] [(3, ⟨26, 4, true, [[.sl 1 (a0.Vars.map cI), .sl 1 (a0.Init.map cI), .sl 2 (a0.Goal.map cF), .sl 4 (a0.Ops.map cGOp)]]⟩), (4, ⟨39, 2, true, [[.c (.int .i64 a1.1), .c (.int .i64 a1.2)]]⟩)]) (fun v => o36 = v) ?_ ?_
        · refine aSR ?_; intro _; refine spl h (fun c38 h => ?_) (fun c38 h => ?_)
          · intro _; refine dr ?_; refine aCd ?_; intro _; refine spl h (fun c39 h => ?_) (fun c39 h => ?_)
            · refine aRg ?_; intro _; refine dr ?_; refine ⟨5, (Option.some.inj h).symm, ?_⟩; exact ca_0
            · refine aSk ?_; refine ⟨z45, (Option.some.inj h).symm, ?_⟩; exact ca_0
          · intro _; refine dr ?_; refine aCd ?_; intro _; refine litF ?_; refine aSk ?_; refine ⟨z45, (Option.some.inj h).symm, ?_⟩; exact ca_0
        · rintro v46 ho; have ho := ho.symm; subst ho; intro _; replace h := hK37; refine aSq ?_; refine aSR ?_; intro _; refine dr ?_; refine aCd ?_; intro _; refine spl h (fun c40 h => ?_) (fun c40 h => ?_)
          · refine aSR ?_; intro _; obtain ⟨z48, z49, u41, h⟩ := ob2_ok h; refine cl rfl (A_mutex_New g a0 u41) ?_; intro _; refine dr ?_; refine aSR ?_; intro _; obtain ⟨z50, z51, z52, u42, h⟩ := ob3_ok h; refine cl rfl (A_mutex_Prune g a0 u42) ?_; intro _; refine dr ?_; refine aSq ?_; rcases z48 with _ | z53
            · replace h := opM_none h; refine aRg ?_; intro _; refine ⟨_, lf_nilQ rfl (Nat.le_of_ble_eq_true rfl) rfl (by kernel_rfl) (.inl ⟨rfl, rfl⟩), ?_⟩; intro _; refine litT ?_; intro _; obtain ⟨z54, u43, h⟩ := ob1_ok h; refine cl rfl (A_b_Num z49 u43) ?_; intro _; refine spl h (fun c44 h => ?_) (fun c44 h => ?_)
              · intro _; obtain ⟨z55, u45, h⟩ := ob1_ok h; refine cl rfl (A_b_Num z52 u45) ?_; intro _; refine spl h (fun c46 h => ?_) (fun c46 h => ?_)
                · intro _; obtain ⟨z56, u47, h⟩ := ob1_ok h; refine clb [] rfl rfl (A_b_Tasks z50 ({ Vars := [], Init := [], Goal := [], Ops := [] : GTask }) u47) ?_; intro _; refine spl h (fun c48 h => ?_) (fun c48 h => ?_)
                  · intro _; refine dr ?_; refine aRt ?_; intro _; obtain rfl := inj1 h; exact ca_0
                  · intro _; refine dr ?_; refine aRt ?_; intro _; obtain rfl := inj1 h; exact ca_0
                · intro _; refine dr ?_; refine aRt ?_; intro _; obtain rfl := inj1 h; exact ca_0
              · intro _; refine dr ?_; refine aRt ?_; intro _; obtain rfl := inj1 h; exact ca_0
            · replace h := opM_some h; refine aRg ?_; intro _; refine ⟨_, lf_nilP rfl (Nat.le_of_ble_eq_true rfl) rfl (by kernel_rfl) (.inl ⟨rfl, rfl⟩), ?_⟩; intro _; refine litF ?_; intro _; refine dr ?_; refine aRt ?_; intro _; obtain rfl := inj1 h; exact ca_0
          · refine aSk ?_; refine aSq ?_; refine aSR ?_; intro _; obtain ⟨z57, u49, h⟩ := ob1_ok h; refine cl rfl (A_l33_fit a0 u49) ?_; intro _; refine dr ?_; refine aCd ?_; intro _; refine spl h (fun c50 h => ?_) (fun c50 h => ?_)
            · refine aSR ?_; intro _; refine dr ?_; refine aRt ?_; intro _; obtain rfl := inj1 h; exact ca_0
            · refine aSk ?_; refine aSR ?_; intro _; obtain ⟨z58, z59, u51, h⟩ := ob2_ok h; refine cl rfl (A_mutex_New g a0 u51) ?_; intro _; refine dr ?_; refine aSq ?_; refine aSq ?_; rcases z59 with _ | e60
              · replace h := erM_nil h; refine aRg ?_; intro _; refine dr ?_; refine aCd ?_; intro _; refine litF ?_; refine aSk ?_; refine aSR ?_; intro _; obtain ⟨z61, u52, h⟩ := ob1_ok h; refine clb [125] rfl rfl (A_b_Proper a0.Vars [a1] u52) ?_; intro _; refine dr ?_; refine aSR ?_; intro _; refine spf h (fun c53 h => ?_) (fun c53 h => ?_)
                · intro _; obtain ⟨z62, u54, h⟩ := ob1_ok h; refine cl rfl (A_stratagem_mutex_Table_Reached z58 a1 u54) ?_; intro _; refine spl h (fun c55 h => ?_) (fun c55 h => ?_)
                  · intro _; obtain ⟨z63, u56, h⟩ := ob1_ok h; refine cl rfl (A_stratagem_mutex_Table_Together z58 a1 a1 u56) ?_; intro _; refine spl h (fun c57 h => ?_) (fun c57 h => ?_)
                    · intro _; obtain ⟨z64, u58, h⟩ := ob1_ok h; refine cl rfl (A_b_State a0.Vars a2 u58) ?_; intro _; refine spf h (fun c59 h => ?_) (fun c59 h => ?_)
                      · intro _; obtain ⟨z65, u60, h⟩ := ob1_ok h; refine cl rfl (A_stratagem_mutex_Table_Dead z58 a2 u60) ?_; intro _; refine dr ?_; refine aRt ?_; intro _; obtain rfl := inj1 h; exact ca_0
                      · intro _; refine dr ?_; refine aRt ?_; intro _; obtain rfl := inj1 h; exact ca_0
                    · intro _; refine dr ?_; refine aRt ?_; intro _; obtain rfl := inj1 h; exact ca_0
                  · intro _; refine dr ?_; refine aRt ?_; intro _; obtain rfl := inj1 h; exact ca_0
                · intro _; obtain ⟨z66, u61, h⟩ := ob1_ok h; refine cl rfl (A_b_State a0.Vars a2 u61) ?_; intro _; refine spf h (fun c62 h => ?_) (fun c62 h => ?_)
                  · intro _; obtain ⟨z67, u63, h⟩ := ob1_ok h; refine cl rfl (A_stratagem_mutex_Table_Dead z58 a2 u63) ?_; intro _; refine dr ?_; refine aRt ?_; intro _; obtain rfl := inj1 h; exact ca_0
                  · intro _; refine dr ?_; refine aRt ?_; intro _; obtain rfl := inj1 h; exact ca_0
              · replace h := erM_no h; refine aRg ?_; intro _; refine dr ?_; refine aCd ?_; intro _; refine litT ?_; refine aSR ?_; intro _; refine dr ?_; refine aRt ?_; intro _; obtain rfl := inj1 h; exact ca_0
end Go.Proofs.YtinnphmnhmdcgaaGreat.Am
namespace Go.Proofs.YtinnphmnhmdcgaaGreat.Am
def M_r05_large_L1_B (_ : GOp) (_y79 : GEffect) (_ : Int) : ((Bool)) → (((Bool)) → Option (Bool)) → Option (Bool) := fun v76 rc => ixv _y79 (fun y79 =>
       sel v76
        (rc (true))
        (rc ((decide (((y79.When.map cF).length : Int) > 64)))))
def M_r05_large_L1_E (_ : GOp) : ((Bool)) → Option (Bool) := fun v76 => some v76
theorem M_r05_large_L1_eq (y69 : GOp) (v76 : Bool) (hl : y69.Effs.length < 9223372036854775807) : M_r05_large_L1 y69 (((y69.Effs.map cGEffect).length : Int).toNat + 1) v76 0 = Rg (M_r05_large_L1_B y69) (M_r05_large_L1_E y69) y69.Effs 0 v76 := rg_e1 (L := fun k i v76 => M_r05_large_L1 y69 k v76 i) hl (fun _ _ _ => rfl) v76
def M_r05_large_L2_B (_ : GTask) (_y69 : GOp) (_ : Int) : ((Bool)) → (((Bool)) → Option (Bool)) → Option (Bool) := fun v53 rc => ob1 (ixv _y69 (fun y69 =>
        ob1 (sel v53
          (some true)
          (sel (decide (((y69.Pre.map cF).length : Int) > 64))
            (some true)
            (some (decide (((y69.Effs.map cGEffect).length : Int) > 64)))) : Option (Bool))
         (fun v70 => M_r05_large_L1 y69 ((((y69.Effs.map cGEffect).length : Int)).toNat + 1) v70 0)) : Option (Bool))
       (fun v67 => rc (v67))
def M_r05_large_L2_E (_ : GTask) : ((Bool)) → Option (Bool) := fun v53 => some v53
theorem M_r05_large_L2_eq (a0 : GTask) (v53 : Bool) (hl : a0.Ops.length < 9223372036854775807) : M_r05_large_L2 a0 (((a0.Ops.map cGOp).length : Int).toNat + 1) v53 0 = Rg (M_r05_large_L2_B a0) (M_r05_large_L2_E a0) a0.Ops 0 v53 := rg_e2 (L := fun k i v53 => M_r05_large_L2 a0 k v53 i) hl (fun k n p y hy h1 h2 => by first | (simp only [M_r05_large_L2, M_r05_large_L2_B, List.length_map, decide_lt h1, sel, ix_at hy, ixv, h2]; done) | (simp only [List.length_map] at h1 hy; (simp only [M_r05_large_L2, M_r05_large_L2_B, List.length_map, decide_lt h1, sel, ix_at hy, ixv, h2]; done))) (fun k p => by simp only [M_r05_large_L2, M_r05_large_L2_E, List.length_map, decide_ge, sel]) v53
def M_r05_outside_L1_B (_ : GTask) (_y18 : Int) (_ : Int) : ((Bool)) → (((Bool)) → Option (Bool)) → Option (Bool) := fun v15 rc => ixv _y18 (fun y18 =>
       sel v15
        (rc (true))
        (sel (decide (y18 < 1))
          (rc (true))
          (rc ((decide (y18 > 64))))))
def M_r05_outside_L1_E (_ : GTask) : ((Bool)) → Option (Bool) := fun v15 => some v15
theorem M_r05_outside_L1_eq (a0 : GTask) (v15 : Bool) (hl : a0.Vars.length < 9223372036854775807) : M_r05_outside_L1 a0 (((a0.Vars.map cI).length : Int).toNat + 1) v15 0 = Rg (M_r05_outside_L1_B a0) (M_r05_outside_L1_E a0) a0.Vars 0 v15 := rg_e1 (L := fun k i v15 => M_r05_outside_L1 a0 k v15 i) hl (fun _ _ _ => rfl) v15
def M_r05_outside_L2_B (_ : GTask) (_y26 : GOp) (_ : Int) : ((Bool)) → (((Bool)) → Option (Bool)) → Option (Bool) := fun v23 rc => ixv _y26 (fun y26 =>
       sel v23
        (rc (true))
        (sel (decide (y26.Cost < 0))
          (rc (true))
          (rc ((decide (y26.Cost > 1048576))))))
def M_r05_outside_L2_E (_ : GTask) : ((Bool)) → Option (Bool) := fun v23 => some v23
theorem M_r05_outside_L2_eq (a0 : GTask) (v23 : Bool) (hl : a0.Ops.length < 9223372036854775807) : M_r05_outside_L2 a0 (((a0.Ops.map cGOp).length : Int).toNat + 1) v23 0 = Rg (M_r05_outside_L2_B a0) (M_r05_outside_L2_E a0) a0.Ops 0 v23 := rg_e1 (L := fun k i v23 => M_r05_outside_L2 a0 k v23 i) hl (fun _ _ _ => rfl) v23
def M_r05_malformed_L1_B (a0 : GTask) (_ : GOp) (_y129 : GEffect) (_ : Int) : ((Bool)) → (((Bool)) → Option (Bool)) → Option (Bool) := fun v126 rc => ixv _y129 (fun y129 =>
       sel v126
        (rc (true))
        (ob1 (M_b_Proper a0.Vars y129.When) (fun z130 =>
          sel (!z130)
           (rc (true))
           (ob1 (M_b_Proper a0.Vars [(y129.Var, y129.Val)]) (fun z131 =>
             rc ((!z131)))))))
def M_r05_malformed_L1_E (_ : GTask) (_ : GOp) : ((Bool)) → Option (Bool) := fun v126 => some v126
theorem M_r05_malformed_L1_eq (a0 : GTask) (y113 : GOp) (v126 : Bool) (hl : y113.Effs.length < 9223372036854775807) : M_r05_malformed_L1 a0 y113 (((y113.Effs.map cGEffect).length : Int).toNat + 1) v126 0 = Rg (M_r05_malformed_L1_B a0 y113) (M_r05_malformed_L1_E a0 y113) y113.Effs 0 v126 := rg_e1 (L := fun k i v126 => M_r05_malformed_L1 a0 y113 k v126 i) hl (fun _ _ _ => rfl) v126
def M_r05_malformed_L2_B (a0 : GTask) (_y113 : GOp) (_ : Int) : ((Bool)) → (((Bool)) → Option (Bool)) → Option (Bool) := fun v89 rc => ob1 (ixv _y113 (fun y113 =>
        ob1 (sel v89
          (some true)
          (ob1 (M_b_Proper a0.Vars y113.Pre) (fun z117 =>
            some (!z117))) : Option (Bool))
         (fun v115 => M_r05_malformed_L1 a0 y113 ((((y113.Effs.map cGEffect).length : Int)).toNat + 1) v115 0)) : Option (Bool))
       (fun v111 => rc (v111))
def M_r05_malformed_L2_E (_ : GTask) : ((Bool)) → Option (Bool) := fun v89 => some v89
theorem M_r05_malformed_L2_eq (a0 : GTask) (v89 : Bool) (hl : a0.Ops.length < 9223372036854775807) : M_r05_malformed_L2 a0 (((a0.Ops.map cGOp).length : Int).toNat + 1) v89 0 = Rg (M_r05_malformed_L2_B a0) (M_r05_malformed_L2_E a0) a0.Ops 0 v89 := rg_e2 (L := fun k i v89 => M_r05_malformed_L2 a0 k v89 i) hl (fun k n p y hy h1 h2 => by first | (simp only [M_r05_malformed_L2, M_r05_malformed_L2_B, List.length_map, decide_lt h1, sel, ix_at hy, ixv, h2]; done) | (simp only [List.length_map] at h1 hy; (simp only [M_r05_malformed_L2, M_r05_malformed_L2_B, List.length_map, decide_lt h1, sel, ix_at hy, ixv, h2]; done))) (fun k p => by simp only [M_r05_malformed_L2, M_r05_malformed_L2_E, List.length_map, decide_ge, sel]) v89
def M_r05_misnamed_L1_B (y57 : GOp) (v63 : Int) : ((Bool)) → (((Bool)) → Option (Bool)) → Option (Bool) := fun v62 rc => sel v62
       (rc (true))
       (sel (decide ((byt y57.Name v63) < 32))
         (grd (0 ≤ v63) (grd (v63 < (y57.Name.size : Int)) (rc (true))))
         (grd (0 ≤ v63) (grd (v63 < (y57.Name.size : Int)) (rc ((decide ((byt y57.Name v63) > 126)))))))
def M_r05_misnamed_L1_E (_ : GOp) : ((Bool)) → Option (Bool) := fun v62 => some v62
theorem M_r05_misnamed_L1_eq (y57 : GOp) (v62 : Bool) {m : Nat} (hm : (y57.Name.size : Int) = (m : Int)) (hl : m < 9223372036854775807) : M_r05_misnamed_L1 y57 (((y57.Name.size : Int)).toNat + 1) v62 0 = Rn (M_r05_misnamed_L1_B y57) (M_r05_misnamed_L1_E y57) m 0 v62 := rn_e (L := fun k i v62 => M_r05_misnamed_L1 y57 k v62 i) hm hl (fun _ _ _ => rfl) v62
def M_r05_misnamed_L2_B (_ : GTask) (_y57 : GOp) (_ : Int) : ((Bool)) → (((Bool)) → Option (Bool)) → Option (Bool) := fun v44 rc => ob1 (ixv _y57 (fun y57 =>
        ob1 (sel v44
          (some true)
          (some (decide ((y57.Name.size : Int) > 256))) : Option (Bool))
         (fun v58 => M_r05_misnamed_L1 y57 (((y57.Name.size : Int)).toNat + 1) v58 0)) : Option (Bool))
       (fun v55 => rc (v55))
def M_r05_misnamed_L2_E (_ : GTask) : ((Bool)) → Option (Bool) := fun v44 => some v44
theorem M_r05_misnamed_L2_eq (a0 : GTask) (v44 : Bool) (hl : a0.Ops.length < 9223372036854775807) : M_r05_misnamed_L2 a0 (((a0.Ops.map cGOp).length : Int).toNat + 1) v44 0 = Rg (M_r05_misnamed_L2_B a0) (M_r05_misnamed_L2_E a0) a0.Ops 0 v44 := rg_e2 (L := fun k i v44 => M_r05_misnamed_L2 a0 k v44 i) hl (fun k n p y hy h1 h2 => by first | (simp only [M_r05_misnamed_L2, M_r05_misnamed_L2_B, List.length_map, decide_lt h1, sel, ix_at hy, ixv, h2]; done) | (simp only [List.length_map] at h1 hy; (simp only [M_r05_misnamed_L2, M_r05_misnamed_L2_B, List.length_map, decide_lt h1, sel, ix_at hy, ixv, h2]; done))) (fun k p => by simp only [M_r05_misnamed_L2, M_r05_misnamed_L2_E, List.length_map, decide_ge, sel]) v44
def M_l33_MutexErrors_L1_B (_ : GTask) (_y43 : Int) (_ : Int) : ((Int)) → (((Int)) → Option (Int)) → Option (Int) := fun v40 rc => ixv _y43 (fun y43 =>
       ob1 (M_b_Clip y43 0 1000) (fun z44 =>
        rc ((IntKind.i64.wrap (v40 + z44)))))
def M_l33_MutexErrors_L1_E (_ : GTask) : ((Int)) → Option (Int) := fun v40 => some v40
theorem M_l33_MutexErrors_L1_eq (a0 : GTask) (v40 : Int) (hl : a0.Vars.length < 9223372036854775807) : M_l33_MutexErrors_L1 a0 (((a0.Vars.map cI).length : Int).toNat + 1) v40 0 = Rg (M_l33_MutexErrors_L1_B a0) (M_l33_MutexErrors_L1_E a0) a0.Vars 0 v40 := rg_e1 (L := fun k i v40 => M_l33_MutexErrors_L1 a0 k v40 i) hl (fun _ _ _ => rfl) v40
end Go.Proofs.YtinnphmnhmdcgaaGreat.Am
namespace Go.Proofs.YtinnphmnhmdcgaaGreat.Am
open Go.RowKit
theorem ref_large (t : GTask) (ht : ShT t) : M_r05_large t = some (largeF t) := by
  have e2 := M_r05_large_L2_eq t (decide (t.Vars.length > 64) || (decide (t.Ops.length > 4096) || decide (t.Goal.length > 64))) ht.ops.lt
  have hv : ∀ K : Bool → Option Bool, ob1 (sel (decide (((t.Vars.map cI).length : Int) > 64)) (some true) (sel (decide (((t.Ops.map cGOp).length : Int) > 4096)) (some true) (some (decide (((t.Goal.map cF).length : Int) > 64)))) : Option (Bool)) K = K (decide (t.Vars.length > 64) || (decide (t.Ops.length > 4096) || decide (t.Goal.length > 64))) := by
    intro K
    simp only [List.length_map]
    have a1 : decide ((t.Vars.length : Int) > 64) = decide (t.Vars.length > 64) := by congr 1; apply propext; omega
    have a2 : decide ((t.Ops.length : Int) > 4096) = decide (t.Ops.length > 4096) := by congr 1; apply propext; omega
    have a3 : decide ((t.Goal.length : Int) > 64) = decide (t.Goal.length > 64) := by congr 1; apply propext; omega
    rw [a1, a2, a3]
    cases decide (t.Vars.length > 64) <;> cases decide (t.Ops.length > 4096) <;> rfl
  rw [M_r05_large, hv, e2, rg_any (q := fun o : GOp => decide (o.Pre.length > 64) || (decide (o.Effs.length > 64) || o.Effs.any fun e => decide (e.When.length > 64))), M_r05_large_L2_E]
  · congr 1
    rw [Bool.eq_iff_iff, largeF, condsF]
    simp only [Bool.or_eq_true, decide_eq_true_iff, List.any_eq_true, List.mem_cons, List.mem_flatMap, condsO, List.mem_map]
    constructor
    · rintro ((h | h | h) | ⟨o, ho, h | h | ⟨e, he, h⟩⟩)
      · exact .inl h
      · exact .inr (.inl h)
      · exact .inr (.inr (.inr ⟨_, .inl rfl, h⟩))
      · exact .inr (.inr (.inr ⟨_, .inr ⟨o, ho, .inl rfl⟩, h⟩))
      · exact .inr (.inr (.inl ⟨o, ho, h⟩))
      · exact .inr (.inr (.inr ⟨_, .inr ⟨o, ho, .inr ⟨e, he, rfl⟩⟩, h⟩))
    · rintro (h | h | ⟨o, ho, h⟩ | ⟨l, rfl | ⟨o, ho, rfl | ⟨e, he, rfl⟩⟩, h⟩)
      · exact .inl (.inl h)
      · exact .inl (.inr (.inl h))
      · exact .inr ⟨o, ho, .inr (.inl h)⟩
      · exact .inl (.inr (.inr h))
      · exact .inr ⟨o, ho, .inl h⟩
      · exact .inr ⟨o, ho, .inr (.inr ⟨e, he, h⟩)⟩
  · intro o ho i v rc
    have e1 := fun v => M_r05_large_L1_eq o v (ht.op o ho).effs.lt
    have a1 : decide ((o.Pre.length : Int) > 64) = decide (o.Pre.length > 64) := by congr 1; apply propext; omega
    have a2 : decide ((o.Effs.length : Int) > 64) = decide (o.Effs.length > 64) := by congr 1; apply propext; omega
    have e3 : ∀ v, M_r05_large_L1 o ((((o.Effs.map cGEffect).length : Int)).toNat + 1) v 0 = some (v || o.Effs.any fun e => decide (e.When.length > 64)) := fun v => by
      rw [e1, rg_any (q := fun e : GEffect => decide (e.When.length > 64)), M_r05_large_L1_E]
      intro e _ i v rc
      rw [M_r05_large_L1_B, ixv, sel_or, List.length_map]
      congr 2
      congr 1; apply propext; omega
    rw [M_r05_large_L2_B, ixv]
    simp only [e3]
    simp only [List.length_map, a1, a2]
    cases v <;> cases decide (o.Pre.length > 64) <;> cases decide (o.Effs.length > 64) <;> rfl
def outF (t : GTask) : Bool := t.Vars.any (fun n => !decide (1 ≤ n ∧ n ≤ 64)) || t.Ops.any (fun o => !decide (0 ≤ o.Cost ∧ o.Cost ≤ 1048576))
theorem ref_out (t : GTask) (ht : ShT t) : M_r05_outside t = some (outF t) := by
  have e1 := M_r05_outside_L1_eq t false ht.vars.lt
  have e2 := fun v => M_r05_outside_L2_eq t v ht.ops.lt
  rw [M_r05_outside, e1, rg_any (q := fun n : Int => !decide (1 ≤ n ∧ n ≤ 64)), M_r05_outside_L1_E, ob1_some, e2, rg_any (q := fun o : GOp => !decide (0 ≤ o.Cost ∧ o.Cost ≤ 1048576)), M_r05_outside_L2_E, Bool.false_or, outF]
  · intro o _ i v rc
    rw [M_r05_outside_L2_B, ixv, sel_or, sel_or]
    congr 2
    rw [Bool.eq_iff_iff, Bool.or_eq_true, decide_eq_true_iff, decide_eq_true_iff, Bool.not_eq_true', decide_eq_false_iff_not]
    omega
  · intro n _ i v rc
    rw [M_r05_outside_L1_B, ixv, sel_or, sel_or]
    congr 2
    rw [Bool.eq_iff_iff, Bool.or_eq_true, decide_eq_true_iff, decide_eq_true_iff, Bool.not_eq_true', decide_eq_false_iff_not]
    omega
def badF (t : GTask) : Bool := !(stateF t.Vars t.Init && propF t.Vars (-1) t.Goal) || t.Ops.any fun o => !propF t.Vars (-1) o.Pre || o.Effs.any fun e => !effF t.Vars e
theorem ref_bad (t : GTask) (ht : ShT t) : M_r05_malformed t = some (badF t) := by
  have e2 := fun v => M_r05_malformed_L2_eq t v ht.ops.lt
  rw [M_r05_malformed, state_eq t.Vars t.Init ht.init, proper_eq t.Vars t.Goal ht.goal]
  have hv : ∀ K : Bool → Option Bool, ob1 (ob1 (some (stateF t.Vars t.Init)) (fun z5 => sel (!z5) (some true) (ob1 (some (propF t.Vars (-1) t.Goal)) (fun z6 => some (!z6))))) K = K (!(stateF t.Vars t.Init && propF t.Vars (-1) t.Goal)) := fun K => by
    cases stateF t.Vars t.Init <;> cases propF t.Vars (-1) t.Goal <;> rfl
  rw [hv, e2, rg_any (q := fun o : GOp => !propF t.Vars (-1) o.Pre || o.Effs.any fun e => !effF t.Vars e), M_r05_malformed_L2_E, badF]
  intro o ho i v rc
  have hso := ht.op o ho
  have e1 := fun v => M_r05_malformed_L1_eq t o v hso.effs.lt
  have e3 : ∀ v, M_r05_malformed_L1 t o ((((o.Effs.map cGEffect).length : Int)).toNat + 1) v 0 = some (v || o.Effs.any fun e => !effF t.Vars e) := fun v => by
    rw [e1, rg_any (q := fun e : GEffect => !effF t.Vars e), M_r05_malformed_L1_E]
    intro e he i v rc
    rw [M_r05_malformed_L1_B, ixv, proper_eq t.Vars e.When (hso.when e he), proper_eq t.Vars [(e.Var, e.Val)] (by show (1 : Nat) ≤ _; decide), ob1_some, ob1_some, sel_or, sel_or, effF]
    cases propF t.Vars (-1) e.When <;> cases propF t.Vars (-1) [(e.Var, e.Val)] <;> rfl
  rw [M_r05_malformed_L2_B, ixv, proper_eq t.Vars o.Pre hso.pre]
  simp only [e3]
  cases v <;> cases propF t.Vars (-1) o.Pre <;> rfl
def misF (t : GTask) : Bool := t.Ops.any fun o => decide (o.Name.size > 256) || !(bl o.Name).all charF
theorem ref_mis (t : GTask) (ht : ShT t) : M_r05_misnamed t = some (misF t) := by
  have e2 := M_r05_misnamed_L2_eq t false ht.ops.lt
  rw [M_r05_misnamed, e2, rg_any (q := fun o : GOp => decide (o.Name.size > 256) || !(bl o.Name).all charF), M_r05_misnamed_L2_E, Bool.false_or, misF]
  intro o ho i v rc
  have hso := (ht.op o ho).name
  have e3 : ∀ v, M_r05_misnamed_L1 o (((o.Name.size : Int)).toNat + 1) v 0 = some (v || !(bl o.Name).all charF) := fun v => by
    rw [M_r05_misnamed_L1_eq o v (m := o.Name.size) rfl (by omega)]
    have := rn_any (B := M_r05_misnamed_L1_B o) (E := M_r05_misnamed_L1_E o) (q := fun k => !(match (bl o.Name)[k]? with | some c => charF c | none => false)) (m := o.Name.size) (n := 0) (v := v) (fun k _ hk v rc => by
      obtain ⟨c, hc, hb⟩ := byt_at o.Name k (by omega)
      rw [M_r05_misnamed_L1_B, hb, hc, sel_dec, grd_t (by omega), grd_t (by omega), grd_t (by omega), grd_t (by omega)]
      simp only [charF]
      by_cases h1 : ((c.toNat : Int)) < 32
      · rw [if_pos h1, sel_or, decide_eq_false (by omega)]; rfl
      · rw [if_neg h1, sel_or]
        congr 2
        rw [Bool.eq_iff_iff, Bool.not_eq_true', decide_eq_true_iff, decide_eq_false_iff_not]
        omega)
    have e0 : Rn (M_r05_misnamed_L1_B o) (M_r05_misnamed_L1_E o) o.Name.size 0 v = _ := this
    rw [e0, M_r05_misnamed_L1_E, ← range_bytes]
    congr 2
    rw [Bool.eq_iff_iff, Bool.not_eq_true', List.all_eq_false]
    simp only [List.any_eq_true, Bool.not_eq_true', Bool.eq_false_iff, ne_eq]
    exact Iff.rfl
  rw [M_r05_misnamed_L2_B, ixv]
  simp only [e3]
  have a1 : decide ((o.Name.size : Int) > 256) = decide (o.Name.size > 256) := by congr 1; apply propext; omega
  rw [a1]
  cases v <;> cases decide (o.Name.size > 256) <;> rfl
theorem any_not {α : Type} (l : List α) (p : α → Bool) : (l.any fun x => !p x) = !l.all p := by rw [List.not_all_eq_any_not]
theorem ref_check (t : GTask) (ht : ShT t) : M_r05_Check t = some (erN (checkF t)) := by
  rw [M_r05_Check, ref_large t ht, ref_out t ht, ref_bad t ht, ref_mis t ht, ob1_some, ob1_some, ob1_some, ob1_some, checkF]
  have hb : badF t = !(stateF t.Vars t.Init && ((condsF t).all (propF t.Vars (-1)) && t.Ops.all (fun o => o.Effs.all (fun e => propF t.Vars (-1) [(e.Var, e.Val)])))) := by
    rw [Bool.eq_iff_iff, badF, Bool.not_eq_true', Bool.eq_false_iff, ne_eq, ← Decidable.not_iff_not, Decidable.not_not]
    simp only [Bool.or_eq_true, Bool.not_eq_true', Bool.and_eq_true, List.any_eq_true, List.all_eq_true, condsF, List.mem_cons, List.mem_flatMap, condsO, List.mem_map, effF, Bool.eq_false_iff, ne_eq]
    constructor
    · intro h
      have h1 : stateF t.Vars t.Init = true ∧ propF t.Vars (-1) t.Goal = true := Decidable.byContradiction fun hh => h (.inl hh)
      have h2 : ∀ o ∈ t.Ops, propF t.Vars (-1) o.Pre = true ∧ ∀ e ∈ o.Effs, propF t.Vars (-1) e.When = true ∧ propF t.Vars (-1) [(e.Var, e.Val)] = true := fun o ho =>
        ⟨Decidable.byContradiction fun hh => h (.inr ⟨o, ho, .inl hh⟩), fun e he => Decidable.byContradiction fun hh => h (.inr ⟨o, ho, .inr ⟨e, he, hh⟩⟩)⟩
      refine ⟨h1.1, fun x hx => ?_, fun o ho e he => ((h2 o ho).2 e he).2⟩
      rcases hx with rfl | ⟨o, ho, rfl | ⟨e, he, rfl⟩⟩
      · exact h1.2
      · exact (h2 o ho).1
      · exact ((h2 o ho).2 e he).1
    · rintro ⟨h1, h2, h3⟩ (h | ⟨o, ho, h | ⟨e, he, h⟩⟩)
      · exact h ⟨h1, h2 _ (.inl rfl)⟩
      · exact h (h2 _ (.inr ⟨o, ho, .inl rfl⟩))
      · exact h ⟨h2 _ (.inr ⟨o, ho, .inr ⟨e, he, rfl⟩⟩), h3 o ho e he⟩
  have hm : misF t = !t.Ops.all (fun o => (bl o.Name).all charF && decide (o.Name.size ≤ 256)) := by
    rw [← any_not, misF]
    congr 1
    funext o
    have : decide (o.Name.size > 256) = !decide (o.Name.size ≤ 256) := by rw [Bool.eq_iff_iff, decide_eq_true_iff, Bool.not_eq_true', decide_eq_false_iff_not]; omega
    rw [this]
    cases decide (o.Name.size ≤ 256) <;> cases (bl o.Name).all charF <;> rfl
  rw [hb, hm, outF, any_not, any_not]
  cases largeF t with
  | true => rfl
  | false =>
    rw [sel_ff, if_neg (by decide)]
    cases t.Vars.all (fun n => decide (1 ≤ n ∧ n ≤ 64)) with
    | false => rfl
    | true =>
      cases t.Ops.all (fun o => decide (0 ≤ o.Cost ∧ o.Cost ≤ 1048576)) with
      | false => rfl
      | true =>
        cases (stateF t.Vars t.Init && ((condsF t).all (propF t.Vars (-1)) && t.Ops.all (fun o => o.Effs.all (fun e => propF t.Vars (-1) [(e.Var, e.Val)])))) with
        | false => rfl
        | true =>
          cases t.Ops.all (fun o => (bl o.Name).all charF && decide (o.Name.size ≤ 256)) <;> rfl
end Go.Proofs.YtinnphmnhmdcgaaGreat.Am
namespace Go.Proofs.YtinnphmnhmdcgaaGreat.Am
open Go.RowKit
def clipS : List Int → Int
  | [] => 0
  | k :: r => max 0 (min k 1000) + clipS r
theorem clipS_sum : ∀ {r : List Int}, (∀ k ∈ r, 1 ≤ k ∧ k ≤ 64) → clipS r = sumI r
  | [], _ => rfl
  | k :: r, h => by
    have h1 := h k (List.mem_cons_self ..)
    have ih := clipS_sum (r := r) fun x hx => h x (List.mem_cons_of_mem _ hx)
    rw [clipS, sumI, ih]
    omega
theorem err1 (t : GTask) : ∀ (r : List Int) (i v : Int), 0 ≤ v → v + 1000 * r.length ≤ 1000000 → Rg (M_l33_MutexErrors_L1_B t) (M_l33_MutexErrors_L1_E t) r i v = some (v + clipS r)
  | [], i, v, _, _ => by rw [Rg, M_l33_MutexErrors_L1_E, clipS, Int.add_zero]
  | k :: r, i, v, h0, h1 => by
    rw [List.length_cons] at h1
    rw [Rg, M_l33_MutexErrors_L1_B, ixv, M_b_Clip, ob1_some, wrap_eq (by omega) (by omega), err1 t r (i + 1) _ (by omega) (by omega), clipS, Int.add_assoc]
theorem checkF_code {t : GTask} {e : Int} (h : checkF t = .no e) : e ≠ 0 := by
  unfold checkF at h
  repeat' split at h
  all_goals first | (cases h; done) | (injection h with h; omega)
theorem tasks_empty : M_b_Tasks { Vars := [], Init := [], Goal := [], Ops := [] } { Vars := [], Init := [], Goal := [], Ops := [] } = some true := by rfl
theorem err_new {t : GTask} {g : Nat} {e : Int} (h : M_mutex_New g t = some (none, Er.no e)) : (ob2 (M_mutex_New g t) (fun z48 z49 =>
                  ob3 (M_mutex_Prune g t) (fun z50 z51 z52 =>
                   opM z48
                    (ob1 (M_b_Num z49) (fun z54 =>
                      sel (z54 == e)
                       (ob1 (M_b_Num z52) (fun z55 =>
                         sel (z55 == e)
                          (ob1 (M_b_Tasks z50 ({ Vars := [], Init := [], Goal := [], Ops := [] : GTask })) (fun z56 =>
                            sel z56
                             (some (((z51.map cI).length : Int) == 0))
                             (some false)))
                          (some false)))
                       (some false)))
                    (fun _ => some false)))) = some true := by
  have hp : M_mutex_Prune g t = some ({ Vars := [], Init := [], Goal := [], Ops := [] }, [], Er.no e) := by
    rw [M_mutex_Prune, h]
    rfl
  rw [h, ob2_some, hp, ob3_some, opM, num_eq, ob1_some, erN, beq_self_eq_true, sel_tt, ob1_some, beq_self_eq_true, sel_tt, tasks_empty]
  rfl
theorem errors_true (g : Nat) (hg : 1000000 ≤ g) (t : GTask) (ht : ShT t) (f : Fact) (s : List Int) (hs : Sh s) : M_l33_MutexErrors g t f s = some true := by
  rw [M_l33_MutexErrors, awake3 g hg]
  have hx : ∀ (p q : Prop) [Decidable p] [Decidable q] (K : Unit ⊕ Bool → Option Bool), (¬p → K (.inl ()) = some true) → K (.inr true) = some true → ob1 (sel (decide p) (ob1 (some true) (fun z12 => some (.inr z12))) (sel (decide q) (ob1 (some true) (fun z11 => some (.inr z11))) (ob1 (some true) (fun z8 => sel (!z8) (ob1 (some true) (fun z9 => some (.inr z9))) (some (.inl ()))))) : Option (Unit ⊕ Bool)) K = some true := by
    intro p q _ _ K h1 h2
    by_cases hp : p
    · rw [decide_eq_true hp]; exact h2
    · rw [decide_eq_false hp]
      by_cases hq : q
      · rw [decide_eq_true hq]; exact h2
      · rw [decide_eq_false hq]; exact h1 hp
  refine hx _ _ _ (fun hlen => ?_) rfl
  rw [List.length_map] at hlen
  have r1 : M_stratagem_mutex_Table_Reached none f = some false := rfl
  have r2 : M_stratagem_mutex_Table_Together none f f = some false := rfl
  have r3 : M_stratagem_mutex_Table_Dead none s = some false := rfl
  have r4 : M_stratagem_mutex_Table_Nogoods none = some [] := rfl
  rw [osum_inl, r1, ob1_some, sel_ff, r2, ob1_some, sel_ff, r3, ob1_some, sel_ff, r4, ob1_some]
  rw [show (decide (((([] : List Nogood).map cN).length : Int) > 0)) = false from rfl, sel_ff, ob1_some, osum_inl]
  rw [M_l33_MutexErrors_L1_eq t 0 (by omega), err1 t t.Vars 0 0 (by decide) (by omega), ob1_some, Int.zero_add, ref_check t ht, ob1_some]
  cases hc : checkF t with
  | no e =>
    have he := checkF_code hc
    rw [erN, show (e == 0) = false from by rw [beq_eq_false_iff_ne]; exact he, sel_ff, ob1_some, show (e != 0) = true from by simp [he], sel_tt]
    exact err_new (new_bad ht g hc)
  | nil =>
    have hgood := (good_check t).2 hc
    rw [erN, show ((0 : Int) == 0) = true from rfl, sel_tt, clipS_sum (good_vars hgood).2.2]
    by_cases h512 : sumI t.Vars > 512
    · rw [decide_eq_true h512, sel_tt, ob1_some, show ((5 : Int) != 0) = true from rfl, sel_tt]
      exact err_new (by rw [new_first ht hgood g, if_pos h512])
    · rw [decide_eq_false h512, sel_ff, ob1_some, show ((0 : Int) != 0) = false from rfl, sel_ff, fit3_eq t ht, ob1_some]
      cases hf : fit3F t with
      | false => rfl
      | true =>
        have F := fit3_of hf
        obtain ⟨R, h1, h2, -⟩ := new_eq F ht g hg (Q := fun _ => True) (fun _ _ _ _ _ _ _ _ => trivial) (fun _ _ _ _ => trivial)
        rw [Bool.not_true, sel_ff, h1, ob2_some, erM, proper_eq t.Vars [f] (by show 1 ≤ _; decide), ob1_some]
        have hend : ob1 (M_b_State t.Vars s) (fun z64 => sel z64 (some true) (ob1 (M_stratagem_mutex_Table_Dead (some (tbl t R)) s) (fun z65 => some (!z65)))) = some true := by
          rw [state_eq t.Vars s hs, ob1_some, dead_eq F.sz h2.rk h2.sy s hs, ob1_some]
          cases stateF t.Vars s <;> rfl
        cases hp : propF t.Vars (-1) [f] with
        | true => rw [sel_tt]; exact hend
        | false =>
          have hr : reaF t R f = false := by rw [reaF, hp, Bool.false_and]
          have htg : togF t R f f = false := by rw [togF, hr, Bool.false_and]
          rw [sel_ff, reached_eq F.sz h2.rk, ob1_some, hr, Bool.not_false, sel_tt, together_eq F.sz h2.rk, ob1_some, htg, Bool.not_false, sel_tt]
          exact hend
end Go.Proofs.YtinnphmnhmdcgaaGreat.Am
namespace Go.Proofs.YtinnphmnhmdcgaaGreat
open Go.RowKit Go.ChangeShapes Go.WideShapes Go.Deep Go.Joins

def I64 (x : Int) : Prop := -9223372036854775808 ≤ x ∧ x ≤ 9223372036854775807
theorem I64.of {x : Int} (h : (Lit.int .i64 x).wf = true) : I64 x := by
  have := bounds_i64 h
  exact this

section
variable {H : Type} {enc : TypeId × Value → H} {P : Program} {w : World} {base : Nat} {spare : Nat → Bool} {held : Bool}

def Sized (P : Program) (t : TypeId) (d : DataW H) : Prop := ∀ n ∈ d.weights P t, n ≤ reachBytes
theorem sized_arg {ts : List TypeId} {ds : List (DataW H)} (h : (DataW.weightsEach P ts ds).all (· ≤ reachBytes) = true) {j : Nat} {t : TypeId} {d : DataW H} (ht : ts[j]? = some t) (hd : ds[j]? = some d) : Sized P t d :=
  fun n hn => of_decide_eq_true (List.all_eq_true.1 h n (DataW.weights_mem_each ht hd n hn))
theorem sized_field {t : TypeId} {fs : Array Field} {parts : List (DataW H)} (h : Sized P t (.agg parts)) (hu : P.underlying t = some (.struct fs)) {j : Nat} {f : Field} {d : DataW H} (hf : fs[j]? = some f) (hd : parts[j]? = some d) : Sized P f.type d :=
  fun n hn => h n (by
    simp only [DataW.weights, hu]
    exact DataW.weights_mem_each (j := j) (by simp [List.getElem?_map, hf]) hd n hn)
theorem weightsAll_mem {e : TypeId} : ∀ {l : List (DataW H)} {d : DataW H}, d ∈ l → ∀ n ∈ d.weights P e, n ∈ DataW.weightsAll P e l
  | x :: l, d, hd, n, hn => by
    simp only [DataW.weightsAll, List.mem_append]
    rcases List.mem_cons.1 hd with rfl | h
    · exact Or.inl hn
    · exact Or.inr (weightsAll_mem h n hn)
theorem sized_elem {t e : TypeId} {elems sp : List (DataW H)} (h : Sized P t (.slice elems sp)) (hu : P.underlying t = some (.slice e)) {d : DataW H} (hd : d ∈ elems) : Sized P e d :=
  fun n hn => h n (by
    simp only [DataW.weights, hu, List.mem_cons, List.mem_append]
    exact Or.inr (Or.inl (weightsAll_mem hd n hn)))
theorem sized_len {t e : TypeId} {elems sp : List (DataW H)} (h : Sized P t (.slice elems sp)) (hu : P.underlying t = some (.slice e)) : elems.length * P.bytesOf e ≤ 140737488355328 := by
  have h1 := h ((elems.length + sp.length) * P.bytesOf e) (by simp [DataW.weights, hu])
  have h2 : elems.length * P.bytesOf e ≤ (elems.length + sp.length) * P.bytesOf e := Nat.mul_le_mul_right _ (by omega)
  have h3 : reachBytes ≤ 140737488355328 := by decide
  omega

end

theorem spot_of_cell {w : World} {p : Addr} {v : Value} (h : w.cell? p = some v) : p.spot = none := by
  unfold World.cell? at h
  split at h
  · split at h
    · cases h
    · rename_i hs; simpa using hs
  · cases h
theorem addr_of_cell {w : World} {a : Addr} {k : Nat} {v : Value} (h0 : ∃ u, w.cell? (a.add 0) = some u) (h : w.cell? (a.add k) = some v) : a = ⟨a.block, a.off, none⟩ ∧ w.cell? ⟨a.block, a.off + k, none⟩ = some v := by
  obtain ⟨u, hu⟩ := h0
  have hs := spot_of_cell hu
  obtain ⟨b, off, sp⟩ := a
  simp [Addr.add] at hs
  subst hs
  refine ⟨rfl, ?_⟩
  rw [← h]
  congr 1
  unfold Addr.add
  split
  · subst k; rfl
  · rfl

theorem list_of {α : Type} (n : Nat) (R : Nat → α → Prop) (h : ∀ i, i < n → ∃ x, R i x) : ∃ l : List α, l.length = n ∧ ∀ k x, l[k]? = some x → R k x := by
  induction n with
  | zero => exact ⟨[], rfl, fun k x hx => by simp at hx⟩
  | succ n ih =>
    obtain ⟨l, hl, hr⟩ := ih (fun i hi => h i (by omega))
    obtain ⟨x, hx⟩ := h n (by omega)
    refine ⟨l ++ [x], by simp [hl], fun k y hy => ?_⟩
    by_cases hk : k < n
    · rw [List.getElem?_append_left (by omega)] at hy
      exact hr k y hy
    · rw [List.getElem?_append_right (by omega)] at hy
      have hk' : k - l.length = 0 := by
        have := (List.getElem?_eq_some_iff.1 hy).1
        simp at this
        omega
      rw [hk'] at hy
      simp at hy
      subst hy
      obtain rfl : k = n := by omega
      exact hx

variable {H : Type} {enc : TypeId × Value → H} {w : World} {base : Nat} {spare : Nat → Bool} {held : Bool}
end Go.Proofs.YtinnphmnhmdcgaaGreat
namespace Go.Proofs.YtinnphmnhmdcgaaGreat.Am
open Go.RowKit Go.ChangeShapes Go.WideShapes Go.Deep Go.Joins

abbrev mZ : MM := mO (fun _ => False)
theorem noZ (b : Nat) : ¬ Owned nov mZ b := fun h => owned_nov.1 h

section
variable {H : Type} {enc : TypeId × Value → H} {P : Program} {w : World} {base : Nat} {spare : Nat → Bool} {held : Bool}
def CellsRv (w : World) (es : List AV) (cs : List Value) : Prop := es.length = cs.length ∧ (∀ (j : Nat) (y : AV) (u : Value), es[j]? = some y → cs[j]? = some u → RV w nov mZ y u ∧ u.oneCell' = true) ∧ ∀ y ∈ es, Fr y
def Opens (enc : TypeId × Value → H) (P : Program) (w : World) (base : Nat) (spare : Nat → Bool) (held : Bool) (t : TypeId) {α : Type} (en : α → List AV) (R : α → Prop) : Prop :=
  ∀ (fuel : Nat) (cs : List Value) (x : DataW H × List MemPlace), DataW.trod enc P w base spare held fuel t cs = some x → Sized P t x.1 → ∃ a, R a ∧ CellsRv w (en a) cs

theorem cells_one1 {y : AV} {u : Value} (h : RV w nov mZ y u) (h1 : u.oneCell' = true) (hf : Fr y) : CellsRv w [y] [u] := by
  refine ⟨rfl, fun j z v hz hv => ?_, fun z hz => by simp at hz; subst hz; exact hf⟩
  cases j with
  | zero => simp at hz hv; subst hz hv; exact ⟨h, h1⟩
  | succ j => simp at hz
theorem opens_int {t : TypeId} {k : IntKind} (ht : P.underlying t = some (.int k)) : Opens enc P w base spare held t (fun z : Int => [.c (.int k z)]) (fun z => (Lit.int k z).wf = true) := by
  intro fuel cs x h _
  obtain ⟨z, rfl, _, wz⟩ := DataW.trod_int ht h
  exact ⟨z, wz, cells_one1 (.c _) rfl (.c _)⟩
theorem opens_slice {t e : TypeId} {α : Type} {en : α → List AV} {R : α → Prop} {sz by_ : Nat} (ht : P.underlying t = some (.slice e)) (hc : P.cellsOf e = sz) (hb : P.bytesOf e = by_) (hby : 0 < by_) (hsz : 0 < sz) (he : Opens enc P w base spare held e en R) :
    Opens enc P w base spare held t (fun l : List α => [.sl sz (l.map en)]) (fun l => l.length * by_ ≤ 140737488355328 ∧ ∀ x ∈ l, R x) := by
  intro fuel cs x h hs
  rcases open_slice ht h with ⟨rfl, _⟩ | ⟨a, len, cap, m, n, D, Pl, rfl, _, hl, hm, hmm, rfl, hi⟩
  · refine ⟨[], ⟨by simp, by simp⟩, cells_one1 ?_ rfl (.sl (fun e he => by cases he))⟩
    exact RV.sl (l := []) (b := 0) (off := 0) (f := fun _ _ => undef) (fun h => absurd rfl h) (Nat.zero_le _) (by simp) (fun k e h => by simp at h) (fun k j e x h => by simp at h) (fun k j e x h => by simp at h) (fun e he => by cases he)
  · have hlen := sized_len hs ht
    rw [hb] at hlen
    simp only [List.length_map, List.length_range] at hlen
    have hml : len ≤ m := by rw [hmm]; split <;> omega
    have hcell : ∀ i, i < len → ∃ z : α, R z ∧ ∃ cs', CellsRv w (en z) cs' ∧ cs'.length = sz ∧ ∀ j, j < sz → w.cell? (a.add (i * sz + j)) = cs'[j]? := by
      intro i hi'
      obtain ⟨cs', hcc, ht'⟩ := hi i (by omega)
      rw [hc] at hcc
      obtain ⟨z, hz, hcr⟩ := he n cs' _ ht' (sized_elem hs ht (List.mem_map.2 ⟨i, by simpa using hi', rfl⟩))
      obtain ⟨_, hcl', hat⟩ := World.cells?_some hcc
      exact ⟨z, hz, cs', hcr, hcl', fun j hj => by rw [← hat j hj, Go.Deep.add_add]⟩
    obtain ⟨l, hl', hat⟩ := list_of len _ hcell
    have hR : ∀ x ∈ l, R x := fun x hx => by
      obtain ⟨k, hk⟩ := List.getElem?_of_mem hx
      exact (hat k x hk).1
    have hfr : FrL (l.map en) := by
      intro e he
      obtain ⟨x, hx, rfl⟩ := List.mem_map.1 he
      obtain ⟨k, hk⟩ := List.getElem?_of_mem hx
      obtain ⟨_, cs', hcr, _⟩ := hat k x hk
      exact hcr.2.2
    refine ⟨l, ⟨by rw [hl']; exact hlen, hR⟩, cells_one1 ?_ rfl (.sl hfr)⟩
    have key : ∀ (k j : Nat) (e : List AV) (y : AV), (l.map en)[k]? = some e → e[j]? = some y → e.length = sz ∧ ∃ u, w.cell? ⟨a.block, a.off + (k * sz + j), none⟩ = some u ∧ u.oneCell' = true ∧ RV w nov mZ y u ∧ a = ⟨a.block, a.off, none⟩ ∧ a.block < w.heap.size := by
      intro k j e y hk hj
      rw [List.getElem?_map] at hk
      cases hx : l[k]? with
      | none => rw [hx] at hk; cases hk
      | some z =>
        rw [hx] at hk
        simp at hk
        subst hk
        obtain ⟨_, cs', ⟨c1, c2, _⟩, c4, c5⟩ := hat k z hx
        have hjl : j < sz := by rw [← c4, ← c1]; exact (List.getElem?_eq_some_iff.1 hj).1
        have hcj := c5 j hjl
        have hget : cs'[j]? = some (cs'[j]'(by omega)) := List.getElem?_eq_getElem _
        rw [hget] at hcj
        obtain ⟨r1, r2⟩ := c2 j y _ hj hget
        have h0 : 0 < len := by have := (List.getElem?_eq_some_iff.1 hx).1; omega
        obtain ⟨_, _, cs0, ⟨_, _, _⟩, d4, d5⟩ := hcell 0 h0
        have hz0 := d5 0 hsz
        rw [List.getElem?_eq_getElem (by omega)] at hz0
        obtain ⟨e1, e2⟩ := addr_of_cell ⟨_, by simpa using hz0⟩ hcj
        exact ⟨by rw [c1, c4], _, e2, r2, r1, e1, lt_of_cell (p := ⟨a.block, a.off + (k * sz + j), none⟩) e2⟩
    have hlen2 : (l.map en).length = len := by simp [hl']
    have := RV.sl (w := w) (vs := nov) (m := mZ) (sz := sz) (l := l.map en) (A := some a) (cap := cap) (b := a.block) (off := a.off) (f := fun k j => (w.cell? ⟨a.block, a.off + (k * sz + j), none⟩).getD undef)
      (fun hne => ?_) (by omega) (by rw [hlen2]; exact Nat.le_trans (Nat.le_mul_of_pos_right _ hby) hlen) (fun k e hk => ?_) (fun k j e y hk hj => ?_) (fun k j e y hk hj => ?_) hfr
    · rw [hlen2] at this
      exact this
    · have h0 : 0 < (l.map en).length := List.length_pos_iff.2 hne
      have hk := List.getElem?_eq_getElem h0
      obtain ⟨x0, hx0, hx0'⟩ : ∃ x0, l[0]? = some x0 ∧ (l.map en)[0] = en x0 := by
        have h1 : 0 < l.length := by simpa using h0
        exact ⟨l[0], List.getElem?_eq_getElem h1, by simp⟩
      obtain ⟨_, cs', ⟨c1, _, _⟩, c4, _⟩ := hat 0 x0 hx0
      have hel : 0 < ((l.map en)[0]).length := by rw [hx0', c1, c4]; exact hsz
      obtain ⟨_, _, _, _, _, q1, q2⟩ := key 0 0 _ _ hk (List.getElem?_eq_getElem hel)
      exact ⟨by rw [← q1], noZ _, q2⟩
    · rw [List.getElem?_map] at hk
      cases hx : l[k]? with
      | none => rw [hx] at hk; cases hk
      | some z =>
        rw [hx] at hk
        simp at hk
        subst hk
        obtain ⟨_, cs', ⟨c1, _, _⟩, c4, _⟩ := hat k z hx
        rw [c1, c4]
    · obtain ⟨_, u, q1, q2, _⟩ := key k j e y hk hj
      rw [q1]
      exact ⟨rfl, q2⟩
    · obtain ⟨_, u, q1, _, q3, _⟩ := key k j e y hk hj
      rw [q1]
      exact q3

def OpensF (enc : TypeId × Value → H) (P : Program) (w : World) (base : Nat) (spare : Nat → Bool) (held : Bool) (fs : List Field) (off tot : Nat) {α : Type} (en : α → List AV) (R : α → Prop) : Prop :=
  ∀ (fuel : Nat) (cs : List Value) (xs : List (DataW H × List MemPlace)), cs.length = tot → xs.length = fs.length → (∀ (i : Nat) (f : Field), fs[i]? = some f → DataW.trod enc P w base spare held fuel f.type ((cs.drop f.offset).take (P.cellsOf f.type)) = xs[i]?) →
    (∀ (i : Nat) (f : Field) (x : DataW H × List MemPlace), fs[i]? = some f → xs[i]? = some x → Sized P f.type x.1) → ∃ a, R a ∧ CellsRv w (en a) (cs.drop off)
theorem cells_append {a b : List AV} {xs ys : List Value} (h1 : CellsRv w a xs) (h2 : CellsRv w b ys) : CellsRv w (a ++ b) (xs ++ ys) := by
  refine ⟨by rw [List.length_append, List.length_append, h1.1, h2.1], fun j y u hy hu => ?_, fun y hy => ?_⟩
  · rcases Nat.lt_or_ge j a.length with hlt | hge
    · rw [List.getElem?_append_left hlt] at hy
      rw [List.getElem?_append_left (by rw [← h1.1]; exact hlt)] at hu
      exact h1.2.1 j y u hy hu
    · rw [List.getElem?_append_right hge] at hy
      rw [List.getElem?_append_right (by rw [← h1.1]; exact hge)] at hu
      rw [h1.1] at hy
      exact h2.2.1 _ y u hy hu
  · rcases List.mem_append.1 hy with h | h
    · exact h1.2.2 y h
    · exact h2.2.2 y h
theorem opensF_last {f : Field} {off tot : Nat} {α : Type} {en : α → List AV} {R : α → Prop} (ho : f.offset = off) (htot : off + P.cellsOf f.type = tot) (h : Opens enc P w base spare held f.type en R) : OpensF enc P w base spare held [f] off tot en R := by
  intro fuel cs xs hcl hx ht hs
  obtain ⟨x, rfl⟩ := List.length_eq_one_iff.1 hx
  have h1 := ht 0 f rfl
  obtain ⟨a, ha, hc⟩ := h fuel _ x h1 (hs 0 f x rfl rfl)
  refine ⟨a, ha, ?_⟩
  rw [ho, List.take_of_length_le (by simp; omega)] at hc
  exact hc
theorem opensF_cons {f : Field} {fs : List Field} {off off' tot : Nat} {α β : Type} {en : α → List AV} {R : α → Prop} {en' : β → List AV} {R' : β → Prop} (ho : f.offset = off) (hoff : off + P.cellsOf f.type = off') (h : Opens enc P w base spare held f.type en R) (h' : OpensF enc P w base spare held fs off' tot en' R') :
    OpensF enc P w base spare held (f :: fs) off tot (fun p : α × β => en p.1 ++ en' p.2) (fun p => R p.1 ∧ R' p.2) := by
  intro fuel cs xs hcl hx ht hs
  cases xs with
  | nil => simp at hx
  | cons x xs =>
    obtain ⟨a, ha, hc⟩ := h fuel _ x (ht 0 f rfl) (hs 0 f x rfl rfl)
    obtain ⟨b, hb, hc'⟩ := h' fuel cs xs hcl (by simpa using hx) (fun i g hg => by simpa using ht (i + 1) g (by simpa using hg)) (fun i g y hg hy => hs (i + 1) g y (by simpa using hg) (by simpa using hy))
    refine ⟨(a, b), ⟨ha, hb⟩, ?_⟩
    rw [ho] at hc
    have : cs.drop off = (cs.drop off).take (P.cellsOf f.type) ++ cs.drop off' := by
      rw [← hoff, ← List.drop_drop, List.take_append_drop]
    rw [this]
    exact cells_append hc hc'
theorem opens_struct {t : TypeId} {fs : Array Field} {α : Type} {en : α → List AV} {R : α → Prop} (ht : P.underlying t = some (.struct fs)) (h : OpensF enc P w base spare held fs.toList 0 (P.cellsOf t) en R) : Opens enc P w base spare held t en R := by
  intro fuel cs x hx hs
  obtain ⟨xs, n, _, rfl, hcl, hxl, hf⟩ := DataW.trod_struct ht hx
  obtain ⟨a, ha, hc⟩ := h n cs xs hcl (by simpa using hxl) (fun i f hi => hf i f (by simpa using hi)) (fun i f y hi hy => sized_field hs ht (j := i) (by simpa using hi) (by simp [List.getElem?_map, hy]))
  exact ⟨a, ha, by simpa using hc⟩

theorem agg_rv {es : List AV} {us : Array Value} (h : CellsRv w es us.toList) : RV w nov mZ (.agg es) (.agg us) :=
  .agg (by rw [h.1]; simp) (fun j y u hy hu => (h.2.1 j y u hy (by simpa using hu)).1)
theorem one_rv {y : AV} {u : Value} (h : CellsRv w [y] [u]) : RV w nov mZ y u := (h.2.1 0 y u rfl rfl).1
end
end Go.Proofs.YtinnphmnhmdcgaaGreat.Am
namespace Go.Proofs.YtinnphmnhmdcgaaGreat
open Go.RowKit Go.WideShapes Go.ChangeShapes Go.ChangeAt
section
variable {H : Type} {enc : TypeId × Value → H} {P : Program}
theorem post_of_below {f : Func} {s : ChangeSpec} {apart fresh handsOn again : Bool} {W W' : World} {args : Array Value} {v : Value} {ds gs : List (DataW H)} {before pa pv : List MemPlace}
    (hW : DataW.Whole enc P f.params.toList s.vars apart W args.toList ds gs before)
    (hres : ∀ (b : Nat) (sp : Nat → Bool) (hd : Bool), DataW.TrodAll enc P W' b sp hd f.resultTypes.toList (v.resultList f.resultTypes.size) (s.fn H (ds ++ gs)).results [])
    (hargs : ∀ sp : Nat → Bool, (∀ p ∈ before, sp p.block = true) → DataW.TrodAll enc P W' 0 sp true f.params.toList args.toList (s.fn H (ds ++ gs)).args pa)
    (hvars : ∀ sp : Nat → Bool, (∀ p ∈ before, sp p.block = true) → DataW.TrodVars enc P W' sp s.vars (s.fn H (ds ++ gs)).vars pv)
    (hps : before = pa ++ pv) (hb : Below W.heap.size W W')
    (hok : ∀ (j : Nat) (t : TypeId) (r : Value), f.resultTypes[j]? = some t → (v.resultList f.resultTypes.size)[j]? = some r → Value.okWide P W' .any 0 t r) :
    s.post enc P f apart fresh handsOn again W args v W' := by
  have hlt : ∀ p ∈ before, p.block < W.heap.size := fun p hp => hW.lt p hp
  have hold : ∀ p ∈ before, (fun b => decide (b < W.heap.size)) p.block = true := fun p hp => by simpa using hlt p hp
  refine ⟨ds, gs, before, [], pa, pv, hW, hres _ _ _, hargs _ hold, hvars _ hold, World.keptBut_mono (fun p hp => ⟨hp, ?_⟩) (hb.frame (· ∈ before)), fun _ => ?_⟩
  · rw [hps, List.mem_append] at hp
    exact Or.inr hp
  · obtain ⟨_, _, _, _, _, hz, hn⟩ := hW
    refine ⟨hok, _, _, ([] ++ pa) ++ pv, ⟨[] ++ pa, pv, trodAll_append (hargs _ (fun _ _ => rfl)) (hres _ _ _), hvars _ (fun _ _ => rfl), rfl, ?_, ?_⟩, ?_⟩
    · intro b off hp
      have hin : MemPlace.cell b off ∈ before := by rw [hps]; simpa using hp
      rw [hb.frozen (hlt _ hin)]
      exact hz b off hin
    · intro ha
      have := hn ha
      rw [hps] at this
      simpa using this
    · intro p hp _
      rw [hps]
      simpa using hp

theorem trodAll_keep (hl : laidOutB P = true) {W W' : World} (hb : Below W.heap.size W W') (sp : Nat → Bool) (ts : List TypeId) : ∀ (vs : List Value) (ds : List (DataW H)) (ps : List MemPlace), (∀ t ∈ ts, P.readableRec t = true ∧ t < P.types.size) →
    DataW.TrodAll enc P W 0 (fun _ => true) true ts vs ds ps → (∀ x ∈ ps, x.block < W.heap.size) → (∀ x ∈ ps, sp x.block = true) → DataW.TrodAll enc P W' 0 sp true ts vs ds ps := by
  induction ts with
  | nil =>
    intro vs ds ps _ h _ _
    obtain ⟨rfl, rfl, rfl⟩ := trodAll_nil h
    exact trodAll_mk0
  | cons t ts ih =>
    intro vs ds ps hts h hlt hsp
    obtain ⟨v0, vs0, d0, ds0, p0, q0, rfl, rfl, rfl, h0, r0⟩ := trodAll_cons h
    obtain ⟨hr, hrow⟩ := hts t (by simp)
    exact trodAll_cons_mk (WideElems.Trod_stays hl hr hrow h0 (fun x hx => hb.same (hlt x (by simp [hx]))) (fun x hx => hsp x (by simp [hx])))
      (ih _ _ _ (fun t ht => hts t (by simp [ht])) r0 (fun x hx => hlt x (by simp [hx])) (fun x hx => hsp x (by simp [hx])))

theorem law_post (hl : laidOutB P = true) {f : Func} {s : ChangeSpec} {T : TypeId} {W W' : World} {args : Array Value} {ds : List (DataW H)} {before : List MemPlace}
    (hvars : s.vars = []) (hrt : f.resultTypes = #[T]) (hT : P.underlying T = some .bool) (hts : f.params.toList.all (fun t => P.readableRec t && decide (t < P.types.size)) = true)
    (hW : DataW.Whole enc P f.params.toList s.vars false W args.toList ds [] before) (hA : DataW.TrodAll enc P W 0 (fun _ => true) true f.params.toList args.toList ds before)
    (e1 : (s.fn H (ds ++ [])).results = [.lit (.bool true)]) (e2 : (s.fn H (ds ++ [])).args = ds) (e3 : (s.fn H (ds ++ [])).vars = []) (hb : Below W.heap.size W W') :
    s.post enc P f false true false false W args (.bool true) W' := by
  have hlt : ∀ x ∈ before, x.block < W.heap.size := fun x hx => hW.lt x hx
  refine post_of_below (pa := before) (pv := []) hW ?_ ?_ ?_ (by simp) hb ?_
  · intro b sp hd
    rw [e1, hrt]
    exact trodAll_cons_mk (shut_bool hT true) trodAll_mk0
  · intro sp hsp
    rw [e2]
    exact trodAll_keep hl hb sp _ _ _ _ (fun t ht => by simpa using List.all_eq_true.1 hts t ht) hA hlt hsp
  · intro sp hsp
    rw [e3, hvars]
    rfl
  · exact ok_one hrt rfl (okWide_bool_mk hT true)
end
end Go.Proofs.YtinnphmnhmdcgaaGreat
namespace Go.Proofs.YtinnphmnhmdcgaaGreat.Am
open Go.RowKit Go.ChangeShapes Go.WideShapes Go.Deep Go.Joins
section
variable {H : Type} {enc : TypeId × Value → H} {w : World} {base : Nat} {spare : Nat → Bool} {held : Bool}
theorem opens_conv {P : Program} {t : TypeId} {α β : Type} {en : α → List AV} {en2 : β → List AV} {R : α → Prop} {R2 : β → Prop} (f : α → β) (h : Opens enc P w base spare held t en R) (he : ∀ a, en2 (f a) = en a) (hR : ∀ a, R a → R2 (f a)) : Opens enc P w base spare held t en2 R2 := by
  intro fuel cs x hx hs
  obtain ⟨a, ha, hc⟩ := h fuel cs x hx hs
  exact ⟨f a, hR a ha, by rw [he]; exact hc⟩
theorem opens_str2 {P : Program} {t : TypeId} (ht : P.underlying t = some .string) : Opens enc P w base spare held t (fun s : ByteArray => [.c (.string s)]) (fun s => s.size ≤ 140737488355328) := by
  intro fuel cs x h hsz
  obtain ⟨s, rfl, rfl, -⟩ := DataW.trod_string ht h
  refine ⟨s, ?_, cells_one1 (.c _) rfl (.c _)⟩
  have h1 : s.data.toList.length ≤ 140737488355328 := Nat.le_trans (hsz s.data.toList.length (List.mem_singleton.2 rfl)) (by decide)
  rw [Array.length_toList] at h1
  exact h1
abbrev I64F (p : Fact) : Prop := (Lit.int .i64 p.1).wf = true ∧ (Lit.int .i64 p.2).wf = true
abbrev FactsR (l : List Fact) : Prop := l.length * 16 ≤ 140737488355328 ∧ ∀ p ∈ l, I64F p
abbrev EffR (e : GEffect) : Prop := FactsR e.When
abbrev OpR (o : GOp) : Prop := o.Name.size ≤ 140737488355328 ∧ FactsR o.Pre ∧ o.Effs.length * 40 ≤ 140737488355328 ∧ ∀ e ∈ o.Effs, EffR e
abbrev IntsR (l : List Int) : Prop := l.length * 8 ≤ 140737488355328 ∧ ∀ z ∈ l, (Lit.int .i64 z).wf = true
abbrev TaskR (t : GTask) : Prop := IntsR t.Vars ∧ IntsR t.Init ∧ FactsR t.Goal ∧ t.Ops.length * 72 ≤ 140737488355328 ∧ ∀ o ∈ t.Ops, OpR o
set_option maxRecDepth 100000 in
theorem oFact : Opens enc Tryz.prog w base spare held 39 cF I64F :=
  opens_struct Tryz.underlying39 (opensF_cons (off' := 1) rfl (by kernel_rfl) (opens_int Tryz.underlying3) (opensF_last rfl (by kernel_rfl) (opens_int Tryz.underlying3)))
set_option maxRecDepth 100000 in
theorem oFacts : Opens enc Tryz.prog w base spare held 23 (fun l : List Fact => [.sl 2 (l.map cF)]) FactsR :=
  opens_slice Tryz.underlying23 (by kernel_rfl) (by kernel_rfl) (by decide) (by decide) oFact
set_option maxRecDepth 100000 in
theorem oInts : Opens enc Tryz.prog w base spare held 22 (fun l : List Int => [.sl 1 (l.map cI)]) IntsR :=
  opens_slice Tryz.underlying22 (by kernel_rfl) (by kernel_rfl) (by decide) (by decide) (opens_int Tryz.underlying3)
set_option maxRecDepth 100000 in
theorem oEff : Opens enc Tryz.prog w base spare held 76 cGEffect EffR :=
  opens_conv (fun p : List Fact × (Int × Int) => { When := p.1, Var := p.2.1, Val := p.2.2 : GEffect })
    (opens_struct Tryz.underlying76 (opensF_cons (off' := 1) (en := fun l : List Fact => [AV.sl 2 (l.map cF)]) (R := FactsR) (en' := fun z : Int × Int => [AV.c (.int .i64 z.1)] ++ [AV.c (.int .i64 z.2)]) (R' := fun z : Int × Int => (Lit.int .i64 z.1).wf = true ∧ (Lit.int .i64 z.2).wf = true) rfl (by kernel_rfl) oFacts
      (opensF_cons (off' := 2) (en := fun z : Int => [AV.c (.int .i64 z)]) (R := fun z : Int => (Lit.int .i64 z).wf = true) (en' := fun z : Int => [AV.c (.int .i64 z)]) (R' := fun z : Int => (Lit.int .i64 z).wf = true) rfl (by kernel_rfl) (opens_int Tryz.underlying3) (opensF_last rfl (by kernel_rfl) (opens_int Tryz.underlying3)))))
    (fun _ => rfl) (fun _ h => h.1)
set_option maxRecDepth 100000 in
theorem oOp : Opens enc Tryz.prog w base spare held 60 cGOp OpR :=
  opens_conv (fun p : ByteArray × (Int × (List Fact × List GEffect)) => { Name := p.1, Cost := p.2.1, Pre := p.2.2.1, Effs := p.2.2.2 : GOp })
    (opens_struct Tryz.underlying60 (opensF_cons (off' := 1) (en := fun s : ByteArray => [AV.c (.string s)]) (R := fun s => s.size ≤ 140737488355328) (en' := fun p : Int × (List Fact × List GEffect) => [AV.c (.int .i64 p.1)] ++ ([AV.sl 2 (p.2.1.map cF)] ++ [AV.sl 3 (p.2.2.map cGEffect)])) (R' := fun p : Int × (List Fact × List GEffect) => (Lit.int .i64 p.1).wf = true ∧ (FactsR p.2.1 ∧ (p.2.2.length * 40 ≤ 140737488355328 ∧ ∀ e ∈ p.2.2, EffR e))) rfl (by kernel_rfl) (opens_str2 Tryz.underlying9)
      (opensF_cons (off' := 2) (en := fun z : Int => [AV.c (.int .i64 z)]) (R := fun z : Int => (Lit.int .i64 z).wf = true) (en' := fun p : List Fact × List GEffect => [AV.sl 2 (p.1.map cF)] ++ [AV.sl 3 (p.2.map cGEffect)]) (R' := fun p : List Fact × List GEffect => FactsR p.1 ∧ (p.2.length * 40 ≤ 140737488355328 ∧ ∀ e ∈ p.2, EffR e)) rfl (by kernel_rfl) (opens_int Tryz.underlying3)
        (opensF_cons (off' := 3) (en := fun l : List Fact => [AV.sl 2 (l.map cF)]) (R := FactsR) (en' := fun l : List GEffect => [AV.sl 3 (l.map cGEffect)]) (R' := fun l : List GEffect => l.length * 40 ≤ 140737488355328 ∧ ∀ e ∈ l, EffR e) rfl (by kernel_rfl) oFacts
          (opensF_last rfl (by kernel_rfl) (opens_slice Tryz.underlying58 (by kernel_rfl) (by kernel_rfl) (by decide) (by decide) oEff))))))
    (fun _ => rfl) (fun _ h => ⟨h.1, h.2.2.1, h.2.2.2⟩)
set_option maxRecDepth 100000 in
theorem oTask : Opens enc Tryz.prog w base spare held 26 cGTask TaskR :=
  opens_conv (fun p : List Int × (List Int × (List Fact × List GOp)) => { Vars := p.1, Init := p.2.1, Goal := p.2.2.1, Ops := p.2.2.2 : GTask })
    (opens_struct Tryz.underlying26 (opensF_cons (off' := 1) (en := fun l : List Int => [AV.sl 1 (l.map cI)]) (R := IntsR) (en' := fun p : List Int × (List Fact × List GOp) => [AV.sl 1 (p.1.map cI)] ++ ([AV.sl 2 (p.2.1.map cF)] ++ [AV.sl 4 (p.2.2.map cGOp)])) (R' := fun p : List Int × (List Fact × List GOp) => IntsR p.1 ∧ (FactsR p.2.1 ∧ (p.2.2.length * 72 ≤ 140737488355328 ∧ ∀ o ∈ p.2.2, OpR o))) rfl (by kernel_rfl) oInts
      (opensF_cons (off' := 2) (en := fun l : List Int => [AV.sl 1 (l.map cI)]) (R := IntsR) (en' := fun p : List Fact × List GOp => [AV.sl 2 (p.1.map cF)] ++ [AV.sl 4 (p.2.map cGOp)]) (R' := fun p : List Fact × List GOp => FactsR p.1 ∧ (p.2.length * 72 ≤ 140737488355328 ∧ ∀ o ∈ p.2, OpR o)) rfl (by kernel_rfl) oInts
        (opensF_cons (off' := 3) (en := fun l : List Fact => [AV.sl 2 (l.map cF)]) (R := FactsR) (en' := fun l : List GOp => [AV.sl 4 (l.map cGOp)]) (R' := fun l : List GOp => l.length * 72 ≤ 140737488355328 ∧ ∀ o ∈ l, OpR o) rfl (by kernel_rfl) oFacts
          (opensF_last rfl (by kernel_rfl) (opens_slice Tryz.underlying24 (by kernel_rfl) (by kernel_rfl) (by decide) (by decide) oOp))))))
    (fun _ => rfl) (fun _ h => h)
theorem arg_struct {P : Program} {t : TypeId} {fs : Array Field} {α : Type} {en : α → List AV} {R : α → Prop} {r : Reach} {b0 : Nat} {v : Value} {d : DataW H} {p : List MemPlace} (ht : P.underlying t = some (.struct fs)) (hv : Value.okWide P w r b0 t v) (ho : Opens enc P w base spare held t en R) (h : DataW.Trod enc P w base spare held t v d p) (hs : Sized P t d) :
    ∃ a, R a ∧ RV w nov mZ (.agg (en a)) v := by
  obtain ⟨cs, rfl, hsz⟩ := okWide_struct ht hv
  obtain ⟨fuel, hf⟩ := h
  obtain ⟨a, ha, hc⟩ := ho fuel _ _ hf hs
  exact ⟨a, ha, agg_rv hc⟩
theorem arg_one {P : Program} {t : TypeId} {α : Type} {y : α → AV} {R : α → Prop} {v : Value} {d : DataW H} {p : List MemPlace} (hv : v.cells = #[v]) (ho : Opens enc P w base spare held t (fun a => [y a]) R) (h : DataW.Trod enc P w base spare held t v d p) (hs : Sized P t d) :
    ∃ a, R a ∧ RV w nov mZ (y a) v := by
  obtain ⟨fuel, hf⟩ := h
  rw [hv] at hf
  obtain ⟨a, ha, hc⟩ := ho fuel _ _ hf hs
  exact ⟨a, ha, one_rv hc⟩
end
theorem TaskR.sh {t : GTask} (h : TaskR t) : ShT t := by
  obtain ⟨⟨h1, -⟩, ⟨h2, -⟩, ⟨h3, -⟩, h4, h5⟩ := h
  refine ⟨?_, ?_, ?_, ?_, fun o ho => ?_⟩
  · show _ ≤ _; omega
  · show _ ≤ _; omega
  · show _ ≤ _; omega
  · show _ ≤ _; omega
  · obtain ⟨g1, ⟨g2, -⟩, g3, g4⟩ := h5 o ho
    refine ⟨by omega, ?_, ?_, fun e he => ?_⟩
    · show _ ≤ _; omega
    · show _ ≤ _; omega
    · have := (g4 e he).1
      show _ ≤ _; omega
theorem FactsR.sh {l : List Fact} (h : FactsR l) : Sh l := by have := h.1; show _ ≤ _; omega
theorem law_of {f : FuncId} {args : List AV} {w : World} {cargs : Array Value} (h : ACall cx f args (.c (.bool true))) (hs : cargs.size = args.length) (hr : ∀ (j : Nat) (x : AV) (v : Value), args[j]? = some x → cargs[j]? = some v → RV w nov (mO (fun _ => False)) x v) :
    Calls Tryz.prog f cargs w fun e w' => e = .returned (.bool true) ∧ Below w.heap.size w w' := by
  refine Calls.mono (h.2 w (fun _ => False) cargs trivial (Nat.zero_le _) (fun b hb => hb.elim) hs hr) ?_
  rintro e w' ⟨v, rfl, h1, h2, _⟩
  rw [rv_c h1]
  exact ⟨rfl, ⟨h2.os, h2.tape, h2.output, h2.size, fun b hb => h2.block b hb (fun h => h)⟩⟩
end Go.Proofs.YtinnphmnhmdcgaaGreat.Am
namespace Go.Proofs.YtinnphmnhmdcgaaGreat.rowErrors
open Go.ChangeShapes Go.WideShapes Go.ChangeAt Go.RowKit Am
theorem laidOut : laidOutB Tryz.prog = true := by kernel_rfl
set_option maxRecDepth 100000 in
theorem contract (H : Type) (enc : TypeId × Value → H) (W : World) (base : Nat) (args : Array Value) (ds gs : List (DataW H)) (before : List MemPlace)
    (hval : ∀ (j : Nat) t v, Tryz.f7.params[j]? = some t → args[j]? = some v → Value.okWide Tryz.prog W .any base t v)
    (hW : DataW.Whole enc Tryz.prog Tryz.f7.params.toList Rows.mutexErrorsSpec.vars false W args.toList ds gs before)
    (hsz : (DataW.weightsEach Tryz.prog (Tryz.f7.params.toList ++ (OpenSpec.ofChange Rows.mutexErrorsSpec).bare.plain.varTypes Tryz.prog) (ds ++ gs)).all (· ≤ reachBytes) = true) :
    Calls Tryz.prog 7 args W fun e W' => ∃ v, e = .returned v ∧ Rows.mutexErrorsSpec.post enc Tryz.prog Tryz.f7 false true false false W args v W' := by
  have hW' := hW
  obtain ⟨p, q, hA0, hV, rfl, hfz, hnd⟩ := hW
  have hA : DataW.TrodAll enc Tryz.prog W 0 (fun _ => true) true Tryz.f7.params.toList args.toList ds p := hA0
  rw [Tryz.params7] at hA hval
  obtain ⟨v0, vs0, d0, ds0, p0, q0, hargs, rfl, rfl, h0, r0⟩ := trodAll_cons hA
  obtain ⟨v1, vs1, d1, ds1, p1, q1, rfl, rfl, rfl, h1, r1⟩ := trodAll_cons r0
  obtain ⟨v2, vs2, d2, ds2, p2, q2, rfl, rfl, rfl, h2, r2⟩ := trodAll_cons r1
  obtain ⟨rfl, rfl, rfl⟩ := trodAll_nil r2
  obtain rfl : args = #[v0, v1, v2] := Array.ext' hargs
  obtain ⟨rfl, rfl⟩ := trodVars_none hV
  simp only [List.append_nil] at hW' hA0 hsz
  rw [Tryz.params7] at hsz
  obtain ⟨t, ht, k0⟩ := arg_struct Tryz.underlying26 (hval 0 26 v0 rfl rfl) oTask h0 (sized_arg hsz (j := 0) rfl rfl)
  obtain ⟨f, hf, k1⟩ := arg_struct Tryz.underlying39 (hval 1 39 v1 rfl rfl) oFact h1 (sized_arg hsz (j := 1) rfl rfl)
  obtain ⟨a2, len2, cap2, rfl⟩ := okWide_slice Tryz.underlying22 (hval 2 22 v2 rfl rfl)
  obtain ⟨s, hs, k2⟩ := arg_one rfl oInts h2 (sized_arg hsz (j := 2) rfl rfl)
  refine (law_of (A_l33_MutexErrors 1000000000000000000 t f s (errors_true _ (by decide) t ht.sh f s (by have := hs.1; show _ ≤ _; omega))) rfl (fun j x v hx hv => ?_)).mono fun e W' ⟨he, hb⟩ => ?_
  · match j, hx, hv with
    | 0, hx, hv => simp at hx hv; subst hx hv; exact k0
    | 1, hx, hv => simp at hx hv; subst hx hv; exact k1
    | 2, hx, hv => simp at hx hv; subst hx hv; exact k2
    | j + 3, hx, hv => simp at hx
  · subst he
    exact ⟨_, rfl, law_post laidOut rfl (by kernel_rfl) Tryz.underlying4 (by kernel_rfl) hW' hA0 rfl rfl rfl hb⟩
theorem own : ownKnob Tryz.prog.godebug = none := by kernel_rfl
theorem laid_met (os : Os) : laidMet Tryz.prog Rows.mutexErrorsRow.laid ((World.holding Tryz.prog os ⟨#[], #[], []⟩).forCall (fun _ _ => 0) ⟨#[], #[.agg #[.slice none 0 0, .slice none 0 0, .slice none 0 0, .slice none 0 0], .agg #[.int .i64 0, .int .i64 0], .slice none 0 0], []⟩).memory :=
  laidMet_of_run' 8 (by kernel_rfl) (by kernel_rfl)
theorem reads (os : Os) {H : Type} (enc : TypeId × Value → H) : ∃ places, DataW.whole enc Tryz.prog ((World.holding Tryz.prog os ⟨#[], #[], []⟩).forCall (fun _ _ => 0) ⟨#[], #[.agg #[.slice none 0 0, .slice none 0 0, .slice none 0 0, .slice none 0 0], .agg #[.int .i64 0, .int .i64 0], .slice none 0 0], []⟩).memory Tryz.f7.params.toList Rows.mutexErrorsSpec.vars false (#[.agg #[.slice none 0 0, .slice none 0 0, .slice none 0 0, .slice none 0 0], .agg #[.int .i64 0, .int .i64 0], .slice none 0 0] : Array Value).toList 8 = some ([.agg [.nil, .nil, .nil, .nil], .agg [.lit (.int .i64 0), .lit (.int .i64 0)], .nil], [], places) :=
  ⟨[], by kernel_rfl⟩

set_option maxRecDepth 100000 in
theorem lifted (os : Os) (started : os.Started) (H : Type) (enc : TypeId × Value → H) (F : Stop.Interp) :
    ReturnsInHanded {} Tryz.checked os 7 .any ((OpenSpec.ofChange Rows.mutexErrorsSpec).preRow enc Tryz.prog Tryz.f7 Rows.mutexErrorsRow.domain false Rows.mutexErrorsRow.laid) (((OpenSpec.ofChange Rows.mutexErrorsSpec).at F).post enc Tryz.prog Tryz.f7 false true false false) := by
  obtain ⟨places, hx⟩ := reads os enc
  refine returnsInHanded_of_row (C := Tryz.checked) (s := OpenSpec.ofChange Rows.mutexErrorsSpec) own started (by kernel_rfl) Tryz.func7
    (witness_row_at (enc := enc) (C := Tryz.checked) false (World.holding Tryz.prog os ⟨#[], #[], []⟩) #[.agg #[.slice none 0 0, .slice none 0 0, .slice none 0 0, .slice none 0 0], .agg #[.int .i64 0, .int .i64 0], .slice none 0 0] rfl (by kernel_rfl) (by kernel_rfl) (by kernel_rfl)
      (OpenSpec.preRow_of_cond 8 hx (by kernel_rfl) (fun k hk => by cases hk) (by kernel_rfl) (laid_met os))) ?_
  intro W base args ds gs before hval hW _ _ hsz _ _ _
  exact contract H enc W base args ds gs before hval hW hsz

theorem said : Rows.MutexErrorsSaid :=
  OpenClaim.holds_of_cond 7 Tryz.f7 rfl rfl rfl rfl rfl rfl rfl ⟨rfl, rfl, rfl, rfl, rfl⟩ rfl rfl rfl rfl rfl (by kernel_rfl) Tryz.func7 (by kernel_rfl)
    (of_decide_eq_true (by kernel_rfl)) (by unfold Func.isWrapper; first | (rw [if_pos (by decide +kernel)]; kernel_rfl) | (rw [if_neg (by decide +kernel)]; exact ⟨rfl, rfl⟩))
    (fun os started H enc _ F => by rw [OpenClaim.pre_eq_preRow]; exact lifted os started H enc F)
end Go.Proofs.YtinnphmnhmdcgaaGreat.rowErrors
