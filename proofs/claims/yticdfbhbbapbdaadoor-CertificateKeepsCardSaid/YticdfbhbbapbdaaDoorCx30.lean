/- The abstract machine over the program of chapter 30; contracts of elder texts taken over. -/
import Derived.Test.YticdfbhbbapbdaaDoorTy
import Derived.Test.YticdfbhbbapbdaaDoorBr
import Derived.Test.YticdfbhbbapbdaaDoorRSort
import Derived.Test.YticdfbhbbapbdaaDoorClaims
import Derived.Test.YticdfbhbbapbdaaDoorAwake30
namespace Go.Proofs.YticdfbhbbapbdaaDoor.Am
open Go.RowKit

theorem tab_block {w : World} (h : TabOk w) : ∃ cs t fr, w.heap[0]? = some (.cells cs t fr) := by
  unfold TabOk Lib.TabIs World.var? at h
  rw [gPow] at h
  simp only [Option.bind_some] at h
  split at h
  · exact ⟨_, _, _, by assumption⟩
  · cases h
theorem tab_keep {w w' : World} (hk : w'.heap[0]? = w.heap[0]?) (h : TabOk w) : TabOk w' := by
  unfold TabOk Lib.TabIs World.var? at h ⊢
  rw [gPow] at h ⊢
  simp only [Option.bind_some] at h ⊢
  rw [hk]
  exact h
noncomputable def cx : Cx := { P := Tryd.prog, N := 0 + 1, Gl := TabOk, keep := fun _ _ hk h => tab_keep (hk _ (Nat.lt_succ_self _)) h, T := tyTab, tyOk := tyTab_ok, mixed := by kernel_rfl }
theorem tab_size {w : World} (h : TabOk w) : cx.N ≤ w.heap.size := by
  obtain ⟨cs, t, fr, hb⟩ := tab_block h
  exact lt_of_block hb
theorem kin_below {w w' : World} (h : Below w.heap.size w w') : Kin w (fun _ => False) w' := ⟨h.os, h.tape, h.output, h.size, fun b hb _ => h.block b hb⟩
theorem below_kin {w w' : World} (h : Kin w (fun _ => False) w') : Below w.heap.size w w' := ⟨h.os, h.tape, h.output, h.size, fun b hb => h.block b hb (fun h => h)⟩
theorem enter_of {f : FuncId} {fn : Func} {c : Code} (hf : Tryd.prog.funcs[f]? = some fn) (hb : fn.body = some c) (hname : (fn.name == "runtime.NumGoroutine") = false) (vs : Array Value) (w : World) : (callFunc f vs).run cx.P w = .ok (.enter f vs) w := by
  have hf' : cx.P.funcs[f]? = some fn := hf
  simp only [callFunc, Sem.run_bind, program, Sem.run, Result.andThen_ok, hf', hname, hb]
  rfl
theorem acall_elder {f : FuncId} {fn : Func} {c : Code} {args : List AV} {r : AV} (hf : Tryd.prog.funcs[f]? = some fn) (hb : fn.body = some c) (hname : (fn.name == "runtime.NumGoroutine") = false)
    (h : ∀ (w : World) (O : Nat → Prop) (cargs : Array Value), TabOk w → (∀ b, O b → b < w.heap.size) → cargs.toList.length = args.length → (∀ (j : Nat) (x : AV) (v : Value), args[j]? = some x → cargs[j]? = some v → RV w nov (mO O) x v) →
      Calls Tryd.prog f cargs w (fun e w' => ∃ v, e = .returned v ∧ RV w' nov (mO O) r v ∧ Below w.heap.size w w')) : ACall cx f args r := by
  refine ⟨enter_of hf hb hname, fun w O cargs hg _ hO hs hr => ?_⟩
  refine Calls.mono (h w O cargs hg (fun b hb => (hO b hb).1) (by simpa using hs) hr) ?_
  rintro e w' ⟨v, h1, h2, h3⟩
  exact ⟨v, h1, h2, kin_below h3, tab_keep (h3.block _ (lt_of_block (tab_block hg).choose_spec.choose_spec.choose_spec)) hg⟩
/-- a law that returns true -/
theorem law_of {f : FuncId} {args : List AV} {w : World} {cargs : Array Value} (h : ACall cx f args (.c (.bool true))) (ht : TabOk w) (hs : cargs.size = args.length) (hr : ∀ (j : Nat) (x : AV) (v : Value), args[j]? = some x → cargs[j]? = some v → RV w nov (mO (fun _ => False)) x v) :
    Calls Tryd.prog f cargs w fun e w' => e = .returned (.bool true) ∧ Below w.heap.size w w' := by
  refine Calls.mono (h.2 w (fun _ => False) cargs ht (tab_size ht) (fun b hb => hb.elim) hs hr) ?_
  rintro e w' ⟨v, rfl, h1, h2, _⟩
  rw [rv_c h1]
  exact ⟨rfl, below_kin h2⟩

/-- sizes that the form of the statement grants -/
def SzN (l : List Nogood) : Prop := l.length * 32 ≤ 140737488355328 ∧ ∀ x ∈ l, x.1.length * 16 ≤ 140737488355328
def aC (bd : Int) (l : List Nogood) : AV := .agg [.c (.int .i64 bd), .sl 2 (l.map cN)]
theorem cert_arg {w : World} {vs : Shp} {m : MM} {bd : Int} {l : List Nogood} {v : Value} (h : RV w vs m (aC bd l) v) (hl : SzN l) : ∃ nv, v = .agg #[.int .i64 bd, nv] ∧ NogoodsAt w nv l := by
  obtain ⟨us, rfl, h1, h2⟩ := rv_agg h
  have hs : us.size = 2 := h1.symm
  have g0 := h2 0 _ us[0] rfl (Array.getElem?_eq_getElem (by omega))
  have g1 := h2 1 _ us[1] rfl (Array.getElem?_eq_getElem (by omega))
  refine ⟨us[1], ?_, rv_nogoods g1 hl.1 hl.2⟩
  rw [← rv_c g0]
  congr 1
  exact Array.ext (by simp [hs]) (fun i h1 h2 => by
    have : i = 0 ∨ i = 1 := by omega
    rcases this with rfl | rfl <;> simp)
theorem args1 {cargs : Array Value} (h : cargs.toList.length = 1) : ∃ a, cargs = #[a] := by
  obtain ⟨a, ha⟩ := List.length_eq_one_iff.1 h
  exact ⟨a, Array.ext' ha⟩
theorem args2 {cargs : Array Value} (h : cargs.toList.length = 2) : ∃ a b, cargs = #[a, b] := by
  match hc : cargs.toList, h with
  | [a, b], _ => exact ⟨a, b, Array.ext' hc⟩
theorem args3 {cargs : Array Value} (h : cargs.toList.length = 3) : ∃ a b c, cargs = #[a, b, c] := by
  match hc : cargs.toList, h with
  | [a, b, c], _ => exact ⟨a, b, c, Array.ext' hc⟩
def errA (z : Int) : AV := if z = 0 then .c .nilIface else .ifc 55 (.c (.int .i64 z))
theorem err_rv {w : World} {vs : Shp} {m : MM} (z : Int) : RV w vs m (errA z) (errV z) := by
  unfold errA errV
  split
  · exact .c _
  · exact .ifc (.c _)

theorem large_A (bd : Int) (l : List Nogood) (hl : SzN l) : ACall cx 15 [aC bd l] (.c (.bool (largeF l))) := by
  refine acall_elder Tryd.func15 rfl (by decide) (fun w O cargs ht _ hs hr => ?_)
  obtain ⟨a, rfl⟩ := args1 hs
  obtain ⟨nv, rfl, hn⟩ := cert_arg (hr 0 _ a rfl rfl) hl
  refine (large_calls bd nv l w hn).mono ?_
  rintro e w' ⟨rfl, hb⟩
  exact ⟨_, rfl, .c _, hb⟩
theorem awake_A : ACall cx 11 [] (.c (.bool true)) := by
  refine acall_elder Tryd.func11 rfl (by decide) (fun w O cargs ht _ hs hr => ?_)
  obtain rfl : cargs = #[] := Array.ext' (List.length_eq_zero_iff.1 hs)
  refine (awake_calls w ht).mono ?_
  rintro e w' ⟨rfl, hb⟩
  exact ⟨_, rfl, .c _, hb⟩
theorem check_A (bd : Int) (l : List Nogood) (hl : SzN l) : ACall cx 13 [aC bd l] (errA (checkF bd l)) := by
  refine acall_elder Tryd.func13 rfl (by decide) (fun w O cargs ht _ hs hr => ?_)
  obtain ⟨a, rfl⟩ := args1 hs
  obtain ⟨nv, rfl, hn⟩ := cert_arg (hr 0 _ a rfl rfl) hl
  refine (check_calls bd nv l w hn).mono ?_
  rintro e w' ⟨rfl, hb⟩
  exact ⟨_, rfl, err_rv _, hb⟩
theorem same_A (b1 b2 : Int) (a b : List Nogood) (ha : SzN a) (hb : SzN b) : ACall cx 22 [aC b1 a, aC b2 b] (.c (.bool (sameC b1 a b2 b))) := by
  refine acall_elder Tryd.func22 rfl (by decide) (fun w O cargs ht _ hs hr => ?_)
  obtain ⟨u, v, rfl⟩ := args2 hs
  obtain ⟨nu, rfl, h1⟩ := cert_arg (hr 0 _ u rfl rfl) ha
  obtain ⟨nv, rfl, h2⟩ := cert_arg (hr 1 _ v rfl rfl) hb
  refine (same_calls b1 b2 nu nv a b w h1 h2).mono ?_
  rintro e w' ⟨rfl, hb⟩
  exact ⟨_, rfl, .c _, hb⟩
theorem Contains_A (a b : List Fact) (ha : a.length * 16 ≤ 140737488355328) (hb : b.length * 16 ≤ 140737488355328) : ACall cx 27 [.sl 2 (a.map cF), .sl 2 (b.map cF)] (.c (.bool (ContainsF a b))) := by
  refine acall_elder Tryd.func27 rfl (by decide) (fun w O cargs ht _ hs hr => ?_)
  obtain ⟨u, v, rfl⟩ := args2 hs
  refine (Contains_calls u v a b w (rv_facts (hr 0 _ u rfl rfl) ha) (rv_facts (hr 1 _ v rfl rfl) hb)).mono ?_
  rintro e w' ⟨rfl, hb⟩
  exact ⟨_, rfl, .c _, hb⟩
theorem claims_A (bd : Int) (l : List Nogood) (s : List Int) (d : Int) (hl : SzN l) (hs0 : s.length * 8 ≤ 140737488355328) : ACall cx 18 [aC bd l, .sl 1 (s.map cI), .c (.int .i64 d)] (.c (.bool (claimsF bd l s d))) := by
  refine acall_elder Tryd.func18 rfl (by decide) (fun w O cargs ht _ hs hr => ?_)
  obtain ⟨u, v, z, rfl⟩ := args3 hs
  obtain ⟨nu, rfl, h1⟩ := cert_arg (hr 0 _ u rfl rfl) hl
  have hz := rv_c (hr 2 _ z rfl rfl)
  subst hz
  refine (claims_calls bd nu v l s d w h1 (rv_ints (hr 1 _ v rfl rfl) hs0)).mono ?_
  rintro e w' ⟨rfl, hb⟩
  exact ⟨_, rfl, .c _, hb⟩
/-- a row of new memory, as a value -/
theorem row_rv {w : World} {base E sz n : Nat} {v : Value} {xs : List Value} {O : Nat → Prop} {els : List (List AV)} (h : w.ownsRow base E sz v n xs) (hO : ∀ b, O b → b < base) (hl : els.length = n) (hmax : n ≤ 140737488355328) (hfr : FrL els) (hsz : ∀ (k : Nat) (e : List AV), els[k]? = some e → e.length = sz)
    (hc : ∀ (k j : Nat) (e : List AV) (y : AV), els[k]? = some e → e[j]? = some y → ∃ u, xs[k * sz + j]? = some u ∧ u.oneCell' = true ∧ RV w nov (mO O) y u) : RV w nov (mO O) (.sl sz els) v := by
  rcases id h.2 with ⟨rfl, h0⟩ | ⟨g, cap, cur, rfl, hb, hh, hnc, _, _, htake⟩
  · obtain rfl : els = [] := List.length_eq_zero_iff.1 (by omega)
    exact nil_rv _ _
  · have hcell : ∀ (k j : Nat) (e : List AV) (y : AV), els[k]? = some e → e[j]? = some y → ∃ u, w.cell? ⟨g, 0 + (k * sz + j), none⟩ = some u ∧ u.oneCell' = true ∧ RV w nov (mO O) y u := fun k j e y hk hj => by
      obtain ⟨u, u1, u2, u3⟩ := hc k j e y hk hj
      refine ⟨u, ?_, u2, u3⟩
      rw [← htake, List.getElem?_take] at u1
      split at u1
      · rw [Nat.zero_add]
        simp only [World.cell?, hh]
        simpa using u1
      · cases u1
    have := RV.sl (w := w) (vs := nov) (m := mO O) (sz := sz) (l := els) (A := some ⟨g, 0, none⟩) (cap := cap) (b := g) (off := 0) (f := fun k j => (w.cell? ⟨g, 0 + (k * sz + j), none⟩).getD undef)
      (fun _ => ⟨rfl, fun ho => ?_, lt_of_block hh⟩) (by omega) (by omega) hsz (fun k j e y hk hj => ?_) (fun k j e y hk hj => ?_) hfr
    · rw [hl] at this
      exact this
    · have := hO g (owned_nov.1 ho)
      omega
    · obtain ⟨u, u1, u2, _⟩ := hcell k j e y hk hj
      rw [u1]
      exact ⟨rfl, u2⟩
    · obtain ⟨u, u1, _, u3⟩ := hcell k j e y hk hj
      rw [u1]
      exact u3
theorem ownF_rv {w : World} {base : Nat} {v : Value} {l : List Fact} {O : Nat → Prop} (h : OwnF w base v l) (hO : ∀ b, O b → b < base) (hl : l.length * 16 ≤ 140737488355328) : RV w nov (mO O) (.sl 2 (l.map cF)) v := by
  refine row_rv h hO (by simp) (by omega) (frl_cF l) (fun k e hk => ?_) (fun k j e y hk hj => ?_)
  · obtain ⟨x, _, rfl⟩ := get_map hk
    rfl
  · obtain ⟨x, hx, rfl⟩ := get_map hk
    obtain ⟨a, b⟩ := factCells_at l k x hx
    match j, hj with
    | 0, hj => simp [cF] at hj; subst hj; exact ⟨_, a, rfl, .c _⟩
    | 1, hj => simp [cF] at hj; subst hj; exact ⟨_, b, rfl, .c _⟩
    | j + 2, hj => simp [cF] at hj
theorem ownN_rv {w : World} {base : Nat} {v : Value} {l : List Nogood} {O : Nat → Prop} (h : OwnN w base v l) (hO : ∀ b, O b → b < base) (hl : l.length * 32 ≤ 140737488355328) : RV w nov (mO O) (.sl 2 (l.map cN)) v := by
  obtain ⟨its, h1, ho, h3⟩ := h
  have hlen : its.length = l.length := by rw [← h1]; simp
  refine row_rv ho hO (by simp) (by omega) (frl_cN l) (fun k e hk => ?_) (fun k j e y hk hj => ?_)
  · obtain ⟨x, _, rfl⟩ := get_map hk
    rfl
  · obtain ⟨x, hx, rfl⟩ := get_map hk
    have hk' : k < its.length := by rw [hlen]; exact (List.getElem?_eq_some_iff.1 hx).1
    have hit : its[k]? = some its[k] := List.getElem?_eq_getElem hk'
    have hx2 : its[k].2 = x := by
      rw [← h1, List.getElem?_map, hit] at hx
      injection hx
    obtain ⟨a, b⟩ := itemCells_at its k _ hit
    obtain ⟨e1, e2⟩ := h3 its[k] (List.getElem_mem _)
    rw [hx2] at b e1 e2
    match j, hj with
    | 0, hj => simp [cN] at hj; subst hj; exact ⟨_, a, rfl, ownF_rv e1 hO e2⟩
    | 1, hj => simp [cN] at hj; subst hj; exact ⟨_, b, rfl, .c _⟩
    | j + 2, hj => simp [cN] at hj
theorem cert_rv {w : World} {O : Nat → Prop} {bd : Int} {l : List Nogood} {nv : Value} (h : RV w nov (mO O) (.sl 2 (l.map cN)) nv) : RV w nov (mO O) (aC bd l) (.agg #[.int .i64 bd, nv]) := by
  refine .agg rfl (fun j x u hx hu => ?_)
  match j, hx, hu with
  | 0, hx, hu => simp at hx hu; subst hx hu; exact .c _
  | 1, hx, hu => simp at hx hu; subst hx hu; exact h
  | j + 2, hx, hu => simp at hx
theorem sort_A (bd : Int) (l : List Nogood) (hl : SzN l) : ACall cx 23 [aC bd l] (aC bd (sortC bd l)) := by
  refine acall_elder Tryd.func23 rfl (by decide) (fun w O cargs ht hO hs hr => ?_)
  obtain ⟨a, rfl⟩ := args1 hs
  obtain ⟨nv, rfl, hn⟩ := cert_arg (hr 0 _ a rfl rfl) hl
  refine (sort_calls bd nv l w hn).mono ?_
  rintro e w' ⟨v', rfl, ho, hb⟩
  have hlen : (sortC bd l).length = l.length := by
    unfold sortC
    split
    · exact (sortN_perm l).length_eq
    · rfl
  exact ⟨_, rfl, cert_rv (ownN_rv ho hO (by rw [hlen]; exact hl.1)), hb⟩
theorem clone_A (bd : Int) (l : List Nogood) (hl : SzN l) : ACall cx 43 [aC bd l] (aC bd l) := by
  refine acall_elder Tryd.func43 rfl (by decide) (fun w O cargs ht hO hs hr => ?_)
  obtain ⟨a, rfl⟩ := args1 hs
  obtain ⟨nv, rfl, hn⟩ := cert_arg (hr 0 _ a rfl rfl) hl
  refine (clone_calls bd nv l w hn).mono ?_
  rintro e w' ⟨v', rfl, ho, hb⟩
  exact ⟨_, rfl, cert_rv (ownN_rv ho hO hl.1), hb⟩
end Go.Proofs.YticdfbhbbapbdaaDoor.Am
