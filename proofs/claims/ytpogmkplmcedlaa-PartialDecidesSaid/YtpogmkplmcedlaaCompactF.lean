/- slices.Compact over facts. -/
import Derived.Test.YtpogmkplmcedlaaAppend
import Derived.Test.YtpogmkplmcedlaaFactEq
import Derived.Lib.SliceRun
namespace Go.Proofs.Ytpogmkplmcedlaa
open Go.RowKit

def dd : Option Fact → List Fact → List Fact
  | _, [] => []
  | p, x :: r => if p = some x then dd (some x) r else x :: dd (some x) r
/-- equal neighbours once -/
def compactF (l : List Fact) : List Fact := dd none l
def lastO : Option Fact → List Fact → Option Fact
  | p, [] => p
  | _, x :: r => lastO (some x) r
theorem lastO_at (l : List Fact) : ∀ (p : Option Fact) (k : Nat) (x : Fact), l.length = k + 1 → l[k]? = some x → lastO p l = some x := by
  induction l with
  | nil => intro p k x h; simp at h
  | cons y r ih =>
    intro p k x h hx
    cases k with
    | zero =>
      have : r = [] := List.length_eq_zero_iff.1 (by simpa using h)
      subst this
      simpa [lastO] using hx
    | succ k => exact ih (some y) k x (by simpa using h) (by simpa using hx)
theorem dd_snoc (l : List Fact) (x : Fact) : ∀ p, dd p (l ++ [x]) = if lastO p l = some x then dd p l else dd p l ++ [x] := by
  induction l with
  | nil => intro p; by_cases h : p = some x <;> simp [dd, lastO, h]
  | cons y r ih =>
    intro p
    simp only [List.cons_append, dd, ih, lastO]
    by_cases h1 : p = some y <;> by_cases h2 : lastO (some y) r = some x <;> simp [h1, h2]
theorem compact_step {l : List Fact} {k : Nat} {x y : Fact} (hx : l[k]? = some x) (hy : l[k - 1]? = some y) (hk : 1 ≤ k) :
    compactF (l.take (k + 1)) = if y = x then compactF (l.take k) else compactF (l.take k) ++ [x] := by
  have hlt : k < l.length := (List.getElem?_eq_some_iff.1 hx).1
  have e : l.take (k + 1) = l.take k ++ [x] := by
    rw [List.take_add_one, hx]; rfl
  have hlast : lastO none (l.take k) = some y := lastO_at _ none (k - 1) y (by rw [List.length_take, Nat.min_eq_left (by omega)]; omega) (by rw [List.getElem?_take_of_lt (by omega), hy])
  rw [e, compactF, dd_snoc, hlast]
  simp [compactF]
theorem compact_one {l : List Fact} : compactF (l.take 1) = l.take 1 := by
  cases l with
  | nil => rfl
  | cons x r => simp [compactF, dd]
theorem compact_short {l : List Fact} (h : l.length < 2) : compactF l = l := by
  match l, h with
  | [], _ => rfl
  | [x], _ => simp [compactF, dd]
theorem factCells_set (m : List Fact) : ∀ (k : Nat) (x : Fact), ((factCells m).set (k * 2) (.int .i64 x.1)).set (k * 2 + 1) (.int .i64 x.2) = factCells (m.set k x) := by
  induction m with
  | nil => intro k x; simp [factCells]
  | cons y r ih =>
    intro k x
    cases k with
    | zero => simp [factCells]
    | succ k =>
      rw [show (k + 1) * 2 = k * 2 + 1 + 1 from by omega]
      simp only [factCells, List.set_cons_succ, ih]

theorem run_clear_facts (w : World) (ty : TypeId) (b o n c : Nat) (hn : 0 < n)
    (hc : ∀ j, j < n * 2 → (w.cell? ⟨b, o + j, none⟩).isSome = true) (hf : ∀ j, j < n * 2 → w.frozen? ⟨b, o + j, none⟩ = false) :
    ∃ zs : List Value, (Builtin.clear_ #[22] ty #[.slice (some ⟨b, o, none⟩) n c]).run Try.prog w = .ok (.tuple #[]) (w.setCells b o zs) := by
  have hv : ∀ w, (zeroValue 56).run Try.prog w = .ok (.agg #[.int .i64 0, .int .i64 0]) w := fun w => by kernel_rfl
  refine ⟨(Builtin.zeroCells #[.int .i64 0, .int .i64 0] n).toList, ?_⟩
  have hst := run_storeCells_cells (P := Try.prog) b o (Builtin.zeroCells #[.int .i64 0, .int .i64 0] n).toList 0 w (by simpa [Builtin.zeroCells, Nat.mul_comm] using hc) (by simpa [Builtin.zeroCells, Nat.mul_comm] using hf) (by
    intro v hv'
    simp [Builtin.zeroCells] at hv'
    obtain ⟨a, _, rfl⟩ := hv'
    rcases Nat.mod_two_eq_zero_or_one a with h | h <;> simp [h] <;> rfl)
  simp only [Nat.add_zero] at hst
  obtain ⟨m, rfl⟩ : ∃ m, n = m + 1 := ⟨n - 1, by omega⟩
  simp [Builtin.clear_, run_underlying Try.underlying22, hv, Value.cells, hst]

theorem OwnF.cells {w : World} {base : Nat} {g n cap : Nat} {m : List Fact} (h : OwnF w base (.slice (some ⟨g, 0, none⟩) n cap) m) (hn : n = m.length) {k : Nat} {x : Fact} (hx : m[k]? = some x) :
    w.cell? ⟨g, k * 2, none⟩ = some (.int .i64 x.1) ∧ w.cell? ⟨g, k * 2 + 1, none⟩ = some (.int .i64 x.2) := by
  subst hn
  have hk : k < m.length := (List.getElem?_eq_some_iff.1 hx).1
  rw [World.ownsRow.cellAt h (k * 2) (by omega), World.ownsRow.cellAt h (k * 2 + 1) (by omega)]
  exact factCells_at m k x hx
theorem only_drewN {a w : World} {row : Option Nat} (h : a.grownBy w row) (n : Nat) : a.grownBy (w.drewN n) row := ⟨h.os, h.tape, h.output, h.size, h.block⟩

theorem only_setCell {a w : World} {g : Nat} (h : a.grownBy w (some g)) {p : Addr} (hp : p.block = g ∨ a.heap.size ≤ p.block) (u : Value) : a.grownBy (w.setCell p u) (some g) :=
  ⟨h.os, h.tape, h.output, by simpa [World.setCell] using h.size, fun i hi hne => (Below.heap_setCell w p u i (by
    rintro rfl
    rcases hp with hp | hp
    · exact hne (by rw [hp])
    · omega)).trans (h.block i hi hne)⟩
theorem OwnF.store {w : World} {base : Nat} {g n cap : Nat} {m : List Fact} (h : OwnF w base (.slice (some ⟨g, 0, none⟩) n cap) m) (hn : n = m.length) (k : Nat) (x : Fact) :
    OwnF ((w.setCell ⟨g, k * 2, none⟩ (.int .i64 x.1)).setCell ⟨g, k * 2 + 1, none⟩ (.int .i64 x.2)) base (.slice (some ⟨g, 0, none⟩) n cap) (m.set k x) := by
  subst hn
  have h1 := (World.ownsRow.stored (World.ownsRow.stored h (k * 2) (.int .i64 x.1)).1 (k * 2 + 1) (.int .i64 x.2)).1
  rw [factCells_set] at h1
  unfold OwnF
  rw [List.length_set]
  exact h1
theorem setCells_own {base : Nat} {e : TypeId} {g n cap : Nat} (vs : List Value) : ∀ (w : World) (o : Nat) (xs : List Value), w.ownsRow base e 2 (.slice (some ⟨g, 0, none⟩) n cap) n xs →
    ∃ xs', (w.setCells g o vs).ownsRow base e 2 (.slice (some ⟨g, 0, none⟩) n cap) n xs' ∧ xs'.take o = xs.take o ∧ w.grownBy (w.setCells g o vs) (some g) := by
  induction vs with
  | nil => intro w o xs h; exact ⟨xs, h, rfl, World.grownBy.refl _ _⟩
  | cons v r ih =>
    intro w o xs h
    obtain ⟨h1, h2⟩ := World.ownsRow.stored h o v
    obtain ⟨xs', h3, h4, h5⟩ := ih (w.setCell ⟨g, o, none⟩ v) (o + 1) _ h1
    refine ⟨xs', h3, ?_, World.grownBy.trans h2 h5⟩
    have := congrArg (List.take o) h4
    rw [List.take_take, List.take_take, Nat.min_eq_left (by omega), List.take_set_of_le (by omega)] at this
    exact this
theorem own_cut {w : World} {base : Nat} {g n cap : Nat} {xs : List Value} (h : w.ownsRow base 56 2 (.slice (some ⟨g, 0, none⟩) n cap) n xs) {k : Nat} (hk : k ≤ n) {l : List Fact} (hl : l.length = k) (hx : xs.take (k * 2) = factCells l) : OwnF w base (.slice (some ⟨g, 0, none⟩) k cap) l := by
  rcases h.2 with ⟨hv, _⟩ | ⟨g', cap', cur, hv, hb, hh, h1, h2, h3, h4⟩
  · cases hv
  · injection hv with e1 _ e3
    injection e1 with e1
    injection e1 with e1 _
    subst e1 e3
    refine ⟨by rw [factCells_length], .inr ⟨g, cap, cur, by rw [hl], hb, hh, by rw [hl]; omega, h2, h3, ?_⟩⟩
    rw [hl, ← hx, ← h4, List.take_take, Nat.min_eq_left (by omega)]
theorem at_drop {l m : List Fact} {a i : Nat} (h : m.drop a = l.drop a) (hi : a ≤ i) : m[i]? = l[i]? := by
  have := congrArg (fun z => z[i - a]?) h
  simpa [List.getElem?_drop, show a + (i - a) = i from by omega] using this

set_option maxHeartbeats 4000000 in
theorem compact_calls (base : Nat) (v : Value) (l : List Fact) (w : World) (h : OwnF w base v l) (hl : l.length * 16 ≤ 140737488355328) :
    Calls Try.prog 35 #[v] w fun e w' => ∃ v', e = .returned v' ∧ OwnF w' base v' (compactF l) ∧ w.grownBy w' v.ownBlock := by
  obtain ⟨A, cap, rfl⟩ := h.form
  obtain ⟨n, hn⟩ : ∃ n, n = l.length := ⟨_, rfl⟩
  rw [← hn] at h hl ⊢
  by_cases hshort : n < 2
  · have hfin : compactF l = l := compact_short (by omega)
    rw [hfin]
    have HO := Lib.hid h
    have HN := Lib.hid hn
    have HFIN := Lib.hid hfin
    clear h hn hfin
    go_enter Try.func35, Try.ntmps35
    go_wp2
    go_ret
    exact ⟨_, rfl, HO.out, World.grownBy.refl _ _⟩
  · obtain ⟨g, rfl, hng, hcm⟩ : ∃ g, A = some ⟨g, 0, none⟩ ∧ n ≤ cap ∧ cap ≤ 9223372036854775807 := by
      rcases h.2 with ⟨hv, h0⟩ | ⟨g, cap', cur, hv, _, _, h1, h2, _⟩
      · omega
      · injection hv with e1 _ e3
        exact ⟨g, e1, by omega, by rw [e3]; exact h2⟩
    have hown : OwnF w base (.slice (some ⟨g, 0, none⟩) n cap) l := by rw [hn]; rw [hn] at h; exact h
    clear h
    have HO := Lib.hid hown
    have HN := Lib.hid hn
    clear hown hn
    go_enter Try.func35, Try.ntmps35
    go_wp2
    go_loopg [3] (n - 1) (fun gg i wr => ∃ k : Nat, 1 ≤ k ∧ k ≤ n ∧ gg = n - k ∧ i = .int .i64 k ∧ (∃ q, wr = w.drewN q) ∧ compactF (l.take k) = l.take k)
    case atStart => exact ⟨1, by omega, by omega, by omega, rfl, ⟨0, rfl⟩, compact_one⟩
    case round =>
      obtain ⟨k, hk1, hkn, hg, rfl, ⟨q, rfl⟩, hF⟩ := hrel
      have HG := Lib.hid hg
      have HF := Lib.hid hF
      clear hg hF
      by_cases hlt : k < n
      · obtain ⟨x, hx, _⟩ := some_at (l := l) (k := k) HN.out hlt
        obtain ⟨y, hy, _⟩ := some_at (l := l) (k := k - 1) HN.out (by omega)
        obtain ⟨c0, c1⟩ := HO.out.cells HN.out hx
        obtain ⟨d0, d1⟩ := HO.out.cells HN.out hy
        have hstep := compact_step hx hy hk1
        obtain ⟨x1, x2⟩ := x
        obtain ⟨y1, y2⟩ := y
        simp only at c0 c1 d0 d1
        have HX := Lib.hid hx
        have HY := Lib.hid hy
        have HST := Lib.hid hstep
        clear hx hy hstep
        go_upto_region 6 with fail
        go_cut [25] (fun t wx => t = .bool (eqB x1 x2 y1 y2) ∧ ∃ q, wx = w.drewN q)
        case first =>
          by_cases h1 : x1 = y1
          · subst h1
            by_cases h2 : x2 = y2
            · subst h2
              refine wp_region_quiet_lit (by kernel_rfl) (by kernel_rfl) ?_
              repeat (any_goals (first | go_big_quiet_step (fail) | quiet_step (fail) | (refine wpQuiet_step (fun K hK => ?_); go_simp; split <;> (refine hK _ ?_; clear hK K))))
              all_goals (refine wpQuiet_nil ?_; intro _ hw'; obtain ⟨nq, hw''⟩ := hw'; subst hw'')
              all_goals (go_wp2_with fail; go_meet; exact ⟨by simp [eqB], _, by first | rfl | rw [World.drewN_drewN]⟩)
            · refine wp_region_quiet_lit (by kernel_rfl) (by kernel_rfl) ?_
              repeat (any_goals (first | go_big_quiet_step (fail) | quiet_step (fail) | (refine wpQuiet_step (fun K hK => ?_); go_simp; split <;> (refine hK _ ?_; clear hK K))))
              all_goals (refine wpQuiet_nil ?_; intro _ hw'; obtain ⟨nq, hw''⟩ := hw'; subst hw'')
              all_goals (go_wp2_with fail; go_meet; exact ⟨by simp [eqB, h2], _, by first | rfl | rw [World.drewN_drewN]⟩)
          · refine wp_region_quiet_lit (by kernel_rfl) (by kernel_rfl) ?_
            repeat (any_goals (first | go_big_quiet_step (fail) | quiet_step (fail) | (refine wpQuiet_step (fun K hK => ?_); go_simp; split <;> (refine hK _ ?_; clear hK K))))
            all_goals (refine wpQuiet_nil ?_; intro _ hw'; obtain ⟨nq, hw''⟩ := hw'; subst hw'')
            all_goals (go_wp2_with fail; go_meet; exact ⟨by simp [eqB, h1], _, by first | rfl | rw [World.drewN_drewN]⟩)
        case rest =>
          obtain ⟨rfl, q', rfl⟩ := hcut
          cases hbad : eqB x1 x2 y1 y2
          · have hne : ¬ ((y1, y2) : Fact) = (x1, x2) := by
              intro e
              injection e with e1 e2
              subst e1 e2
              simp [eqB] at hbad
            have hnext : compactF (l.take (k + 1)) = l.take (k + 1) := by
              rw [HST.out, if_neg hne, HF.out, List.take_add_one, HX.out]; rfl
            have HNE := Lib.hid hne
            have HNEXT := Lib.hid hnext
            clear hne hnext
            go_wp2
            go_roundg (n - (k + 1))
            case measure => have := HG.out; omega
            case rel => exact ⟨k + 1, by omega, by omega, rfl, by go_num, ⟨_, rfl⟩, HNEXT.out⟩
          · have heq : ((y1, y2) : Fact) = (x1, x2) := by simp [eqB] at hbad; rw [hbad.1, hbad.2]
            have hnext : compactF (l.take (k + 1)) = l.take k := by rw [HST.out, if_pos heq, HF.out]
            have HEQ := Lib.hid heq
            have HNEXT := Lib.hid hnext
            clear heq hnext
            clear c0 c1 d0 d1
            have hcapk : ¬ cap = k := by omega
            have hstart := only_drewN (World.grownBy.refl w (some g)) q'
            have HSTART := Lib.hid hstart
            clear hstart
            go_wp2
            go_loopg [3, 5] (n - k - 1) (fun gg a i wx => ∃ (j kk : Nat) (m : List Fact), 1 ≤ j ∧ j ≤ n - k ∧ gg = n - k - j ∧ a = .int .i64 kk ∧ i = .int .i64 j ∧ k ≤ kk ∧ kk ≤ k + j - 1 ∧ OwnF wx base (.slice (some ⟨g, 0, none⟩) n cap) m ∧ n = m.length ∧ compactF (l.take (k + j)) = m.take kk ∧ m.drop (k + j - 1) = l.drop (k + j - 1) ∧ w.grownBy wx (some g))
            case atStart => exact ⟨1, k, l, by omega, by omega, by omega, rfl, rfl, by omega, by omega, HO.out, HN.out, HNEXT.out, rfl, HSTART.out⟩
            case round =>
              clear HSTART HNEXT HEQ
              obtain ⟨j, kk, m, hj1, hjn, hg2, rfl, rfl, hkk, hkk2, hown2, hmn, hC, hD, hgr⟩ := hrel
              have HG2 := Lib.hid hg2
              have HC := Lib.hid hC
              have HD := Lib.hid hD
              have HGR := Lib.hid hgr
              have HMN := Lib.hid hmn
              have HO2 := Lib.hid hown2
              clear hg2 hC hD hgr hmn hown2
              by_cases hjt : j < n - k
              · obtain ⟨z, hz, _⟩ := some_at (l := l) (k := k + j) HN.out (by omega)
                obtain ⟨u, hu, _⟩ := some_at (l := l) (k := k + j - 1) HN.out (by omega)
                have hzm : m[k + j]? = some z := by rw [at_drop HD.out (by omega)]; exact hz
                have hum : m[k + j - 1]? = some u := by rw [at_drop HD.out (by omega)]; exact hu
                obtain ⟨s, hs, _⟩ := some_at (l := m) (k := kk) HMN.out (by omega)
                obtain ⟨c0, c1⟩ := HO2.out.cells HMN.out hzm
                obtain ⟨d0, d1⟩ := HO2.out.cells HMN.out hum
                obtain ⟨s0, s1⟩ := HO2.out.cells HMN.out hs
                have f0 : wr.frozen? ⟨g, kk * 2, none⟩ = false := World.ownsRow.frozenAt (by have := HO2.out; unfold OwnF at this; rw [← HMN.out] at this; exact this) (kk * 2)
                have f1 : wr.frozen? ⟨g, kk * 2 + 1, none⟩ = false := World.ownsRow.frozenAt (by have := HO2.out; unfold OwnF at this; rw [← HMN.out] at this; exact this) (kk * 2 + 1)
                have hstep2 := compact_step hz hu (by omega)
                obtain ⟨z1, z2⟩ := z
                obtain ⟨u1, u2⟩ := u
                rw [show (k + j) * 2 = k * 2 + j * 2 from by omega] at c0 c1
                rw [show (k + j - 1) * 2 = k * 2 + (j - 1) * 2 from by omega] at d0 d1
                simp only at c0 c1 d0 d1
                have HZ := Lib.hid hz
                have HU := Lib.hid hu
                have HZM := Lib.hid hzm
                have HUM := Lib.hid hum
                have HS := Lib.hid hs
                have HST2 := Lib.hid hstep2
                clear hz hu hzm hum hs hstep2
                go_upto_region 11 with fail
                go_cut [44] (fun t wx => t = .bool !(eqB z1 z2 u1 u2) ∧ ∃ q, wx = wr.drewN q)
                case first =>
                  by_cases h1 : z1 = u1
                  · subst h1
                    by_cases h2 : z2 = u2
                    · subst h2
                      refine wp_region_quiet_lit (by kernel_rfl) (by kernel_rfl) ?_
                      repeat (any_goals (first | go_big_quiet_step (fail) | quiet_step (fail) | (refine wpQuiet_step (fun K hK => ?_); go_simp; split <;> (refine hK _ ?_; clear hK K))))
                      all_goals (refine wpQuiet_nil ?_; intro _ hw'; obtain ⟨nq, hw''⟩ := hw'; subst hw'')
                      all_goals (go_wp2_with fail; go_meet; exact ⟨by simp [eqB], _, by first | rfl | rw [World.drewN_drewN]⟩)
                    · refine wp_region_quiet_lit (by kernel_rfl) (by kernel_rfl) ?_
                      repeat (any_goals (first | go_big_quiet_step (fail) | quiet_step (fail) | (refine wpQuiet_step (fun K hK => ?_); go_simp; split <;> (refine hK _ ?_; clear hK K))))
                      all_goals (refine wpQuiet_nil ?_; intro _ hw'; obtain ⟨nq, hw''⟩ := hw'; subst hw'')
                      all_goals (go_wp2_with fail; go_meet; exact ⟨by simp [eqB, h2], _, by first | rfl | rw [World.drewN_drewN]⟩)
                  · refine wp_region_quiet_lit (by kernel_rfl) (by kernel_rfl) ?_
                    repeat (any_goals (first | go_big_quiet_step (fail) | quiet_step (fail) | (refine wpQuiet_step (fun K hK => ?_); go_simp; split <;> (refine hK _ ?_; clear hK K))))
                    all_goals (refine wpQuiet_nil ?_; intro _ hw'; obtain ⟨nq, hw''⟩ := hw'; subst hw'')
                    all_goals (go_wp2_with fail; go_meet; exact ⟨by simp [eqB, h1], _, by first | rfl | rw [World.drewN_drewN]⟩)
                case rest =>
                  obtain ⟨rfl, q2, rfl⟩ := hcut
                  cases hbad : eqB z1 z2 u1 u2
                  · have hne : ¬ ((u1, u2) : Fact) = (z1, z2) := by
                      intro e
                      injection e with e1 e2
                      subst e1 e2
                      simp [eqB] at hbad
                    have hnext : compactF (l.take (k + (j + 1))) = (m.set kk (z1, z2)).take (kk + 1) := by
                      rw [← Nat.add_assoc, HST2.out, if_neg hne, HC.out, List.take_add_one, List.take_set_of_le (by omega)]
                      have := HMN.out
                      simp [show kk < m.length by omega]
                    have hdrop : (m.set kk (z1, z2)).drop (k + (j + 1) - 1) = l.drop (k + (j + 1) - 1) := by
                      rw [List.drop_set_of_lt (by omega)]
                      have := congrArg (List.drop 1) HD.out
                      simpa [List.drop_drop, show 1 + (k + j - 1) = k + (j + 1) - 1 from by omega, show k + j - 1 + 1 = k + (j + 1) - 1 from by omega] using this
                    have HNE := Lib.hid hne
                    have HNEXT := Lib.hid hnext
                    have HDROP := Lib.hid hdrop
                    clear hne hnext hdrop
                    go_wp2
                    go_roundg (n - k - (j + 1))
                    case measure => have := HG2.out; omega
                    case rel => exact ⟨j + 1, kk + 1, m.set kk (z1, z2), by omega, by omega, rfl, by go_num, by go_num, by omega, by omega, OwnF.store (x := (z1, z2)) HO2.out HMN.out kk, by rw [List.length_set]; exact HMN.out, HNEXT.out, HDROP.out, only_setCell (only_setCell (only_drewN HGR.out q2) (.inl rfl) _) (.inl rfl) _⟩
                  · have heq : ((u1, u2) : Fact) = (z1, z2) := by simp [eqB] at hbad; rw [hbad.1, hbad.2]
                    have hnext : compactF (l.take (k + (j + 1))) = m.take kk := by rw [← Nat.add_assoc, HST2.out, if_pos heq, HC.out]
                    have hdrop : m.drop (k + (j + 1) - 1) = l.drop (k + (j + 1) - 1) := by
                      have := congrArg (List.drop 1) HD.out
                      simpa [List.drop_drop, show 1 + (k + j - 1) = k + (j + 1) - 1 from by omega, show k + j - 1 + 1 = k + (j + 1) - 1 from by omega] using this
                    have HEQ := Lib.hid heq
                    have HNEXT := Lib.hid hnext
                    have HDROP := Lib.hid hdrop
                    clear heq hnext hdrop
                    go_wp2
                    go_roundg (n - k - (j + 1))
                    case measure => have := HG2.out; omega
                    case rel => exact ⟨j + 1, kk, m, by omega, by omega, rfl, rfl, by go_num, by omega, by omega, HO2.out, HMN.out, HNEXT.out, HDROP.out, only_drewN HGR.out q2⟩
              · have hjk : j = n - k := by omega
                have hfin : compactF l = m.take kk := by rw [← HC.out, List.take_of_length_le (by have := HN.out; omega)]
                have ho2 : wr.ownsRow base 56 2 (.slice (some ⟨g, 0, none⟩) n cap) n (factCells m) := by have := HO2.out; unfold OwnF at this; rw [← HMN.out] at this; exact this
                have hcl := fun (ty : TypeId) => run_clear_facts wr ty g (kk * 2) (n - kk) (cap - kk) (by omega)
                  (fun i hi => by rw [World.ownsRow.cellAt ho2 (kk * 2 + i) (by omega), List.getElem?_eq_getElem (by rw [factCells_length, ← HMN.out]; omega)]; rfl)
                  (fun i hi => World.ownsRow.frozenAt ho2 (kk * 2 + i))
                obtain ⟨zs, hclr⟩ := hcl 0
                obtain ⟨xs', hx1, hx2, hx3⟩ := setCells_own zs wr (kk * 2) _ ho2
                have hcapkk : ¬ cap = kk := by omega
                have hown3 : OwnF (wr.setCells g (kk * 2) zs) base (.slice (some ⟨g, 0, none⟩) kk cap) (compactF l) :=
                  own_cut hx1 (by omega) (by rw [hfin, List.length_take, ← HMN.out]; omega) (by rw [hx2, factCells_take, hfin])
                have hg3 := World.grownBy.trans HGR.out hx3
                clear hcl
                have HFIN := Lib.hid hfin
                have HOO := Lib.hid ho2
                have HX1 := Lib.hid hx1
                have HX2 := Lib.hid hx2
                have HX3 := Lib.hid hx3
                have HOWN3 := Lib.hid hown3
                have HG3 := Lib.hid hg3
                have HJK := Lib.hid hjk
                clear hfin ho2 hx1 hx2 hx3 hown3 hg3 hjk
                go_wp2
                go_ret
                exact ⟨_, rfl, HOWN3.out, HG3.out⟩
      · have hfin : compactF l = l := by rw [← List.take_of_length_le (l := l) (i := k) (by have := HN.out; omega)]; rw [HF.out]
        have HFIN := Lib.hid hfin
        clear hfin
        go_wp2
        go_ret
        exact ⟨_, rfl, by rw [HFIN.out]; exact HO.out, only_drewN (World.grownBy.refl _ _) _⟩
end Go.Proofs.Ytpogmkplmcedlaa
