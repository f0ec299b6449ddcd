/- partial.Join, stratagemref06.Clash, stratagemref06.Join. -/
import Derived.Test.YtpogmkplmcedlaaContains
import Derived.Test.YtpogmkplmcedlaaPlain06
namespace Go.Proofs.Ytpogmkplmcedlaa
open Go.RowKit

set_option maxHeartbeats 1000000 in
theorem clash_calls (u v : Value) (a b : List Fact) (w : World) (hu : FactsAt w u a) (hv : FactsAt w v b) :
    Calls Try.prog 40 #[u, v] w fun e w' => e = .returned (.bool (clashF a b)) ∧ Below w.heap.size w w' := by
  obtain ⟨A, n, c, rfl, hn, hm⟩ := hu.form
  obtain ⟨A', n', c', rfl, hn', hm'⟩ := hv.form
  have HU := Lib.hid hu
  have HV := Lib.hid hv
  have HN := Lib.hid hn
  have HN' := Lib.hid hn'
  clear hu hv hn hn'
  go_enter Try.func40, Try.ntmps40
  go_wp2
  go_loopg [10] n (fun g i wr => ∃ k : Nat, k ≤ n ∧ g = n - k ∧ i = .int .i64 k ∧ Below w.heap.size w wr ∧ clashF a b = clashF (a.drop k) b)
  case atStart => exact ⟨0, Nat.zero_le _, by omega, rfl, Below.refl _ _, rfl⟩
  case round =>
    obtain ⟨k, hk, hg, rfl, hB, hF⟩ := hrel
    have HG := Lib.hid hg
    have HF := Lib.hid hF
    clear hg hF
    by_cases hlt : k < n
    · obtain ⟨bb, off, x, y, rfl, c0, c1, hx, hd⟩ := (HU.out.keep hB).at hlt
      have hbr : bb < wr.heap.size := lt_of_cell c0
      have hvc := value_calls _ b x _ ((HV.out.keep hB).keep (belowA (Below.refl _ _) (.cells #[.int .i64 x, .int .i64 y] 56)))
      have hstep : clashF a b = (decide (0 ≤ valueF b x) && (valueF b x != y) || clashF (a.drop (k + 1)) b) := by rw [HF.out, hd]; rfl
      generalize valueF b x = z at hvc hstep
      have HX := Lib.hid hx
      have HD := Lib.hid hd
      have HVC := Lib.hid hvc
      clear hx hd hvc
      cases hcl : (decide (0 ≤ z) && (z != y))
      · have hnext : clashF a b = clashF (a.drop (k + 1)) b := by rw [hstep, hcl]; rfl
        have HSTEP := Lib.hid hstep
        have HNEXT := Lib.hid hnext
        clear hstep hnext
        by_cases hz : 0 ≤ z
        · have hzy : (z != y) = false := by
            have e : decide (0 ≤ z) = true := by simpa using hz
            rw [e] at hcl
            simpa using hcl
          clear hcl
          go_wp2_with (go_at_call 37; refine HVC.out.mono ?_; rintro e w1 ⟨rfl, hb1⟩; have q0 : w1.cell? ⟨wr.heap.size, 0, none⟩ = some (.int .i64 x) := kept hb1 (by simp); have q1 : w1.cell? ⟨wr.heap.size, 1, none⟩ = some (.int .i64 y) := kept hb1 (by simp); have HB1 := Lib.hid (belowT (belowA hB _) hb1); clear hb1)
          go_roundg (n - (k + 1))
          case measure => have := HG.out; omega
          case rel => exact ⟨k + 1, by omega, rfl, by go_num, HB1.out, HNEXT.out⟩
        · have hz' : decide (0 ≤ z) = false := by simpa using hz
          clear hcl
          go_wp2_with (go_at_call 37; refine HVC.out.mono ?_; rintro e w1 ⟨rfl, hb1⟩; have q0 : w1.cell? ⟨wr.heap.size, 0, none⟩ = some (.int .i64 x) := kept hb1 (by simp); have q1 : w1.cell? ⟨wr.heap.size, 1, none⟩ = some (.int .i64 y) := kept hb1 (by simp); have HB1 := Lib.hid (belowT (belowA hB _) hb1); clear hb1)
          go_roundg (n - (k + 1))
          case measure => have := HG.out; omega
          case rel => exact ⟨k + 1, by omega, rfl, by go_num, HB1.out, HNEXT.out⟩
      · have hfin : clashF a b = true := by rw [hstep, hcl]; rfl
        have hz : 0 ≤ z := by simp at hcl; exact hcl.1
        have hzy : (z != y) = true := by simp at hcl; simpa using hcl.2
        have HSTEP := Lib.hid hstep
        have HFIN := Lib.hid hfin
        clear hstep hfin
        clear hcl
        go_wp2_with (go_at_call 37; refine HVC.out.mono ?_; rintro e w1 ⟨rfl, hb1⟩; have q0 : w1.cell? ⟨wr.heap.size, 0, none⟩ = some (.int .i64 x) := kept hb1 (by simp); have q1 : w1.cell? ⟨wr.heap.size, 1, none⟩ = some (.int .i64 y) := kept hb1 (by simp); have HB1 := Lib.hid (belowT (belowA hB _) hb1); clear hb1)
        go_ret
        exact ⟨by rw [HFIN.out]; rfl, HB1.out⟩
    · have hfin : clashF a b = false := by rw [HF.out, List.drop_eq_nil_of_le (by have := HN.out; omega)]; rfl
      have HFIN := Lib.hid hfin
      clear hfin
      go_wp2
      go_ret
      exact ⟨by rw [HFIN.out]; rfl, hB⟩

def joinF (a b : List Fact) : List Fact × Bool := if isF a && isF b then ((makeF (a ++ b)).1, decide ((makeF (a ++ b)).2 = 0)) else ([], false)
theorem joinF_len (a b : List Fact) : (joinF a b).1.length ≤ a.length + b.length := by
  unfold joinF
  split
  · have := makeF_len (a ++ b); simpa using this
  · simp
def rjoinF (a b : List Fact) : List Fact × Bool := if isF a && isF b && !clashF a b then ((rmakeF (a ++ b)).1, true) else ([], false)

theorem clash_iff {a b : List Fact} (ha : Asc a) (hb : Asc b) (hnb : Nonneg b) : clashF a b = true ↔ Conflict (a ++ b) := by
  constructor
  · intro h
    obtain ⟨x, hx, hc⟩ := List.any_eq_true.1 h
    simp at hc
    exact ⟨x, by simp [hx], (x.1, valueF b x.1), List.mem_append_right _ (valueF_mem (by omega)), rfl, fun e => hc.2 e.symm⟩
  · rintro ⟨x, hx, y, hy, e, hne⟩
    have key : ∀ p q : Fact, p ∈ a → q ∈ b → p.1 = q.1 → p.2 ≠ q.2 → clashF a b = true := by
      intro p q hp hq e1 e2
      refine List.any_eq_true.2 ⟨p, hp, ?_⟩
      have hv : valueF b p.1 = q.2 := by
        by_cases h0 : valueF b p.1 < 0
        · exact absurd e1.symm (valueF_none hnb h0 q hq)
        · have hm := valueF_mem (l := b) (v := p.1) (by omega)
          have := asc_inj hb hm hq e1
          exact congrArg Prod.snd this
      have hq2 := (hnb q hq).2
      simp [hv]
      exact ⟨hq2, fun h => e2 h.symm⟩
    rcases List.mem_append.1 hx with hx | hx <;> rcases List.mem_append.1 hy with hy | hy
    · exact absurd (congrArg Prod.snd (asc_inj ha hx hy e)) hne
    · exact key x y hx hy e hne
    · exact key y x hy hx e.symm (fun h => hne h.symm)
    · exact absurd (congrArg Prod.snd (asc_inj hb hx hy e)) hne
theorem join_eq (a b : List Fact) : joinF a b = rjoinF a b := by
  unfold joinF rjoinF
  rw [make_eq]
  cases ha : isF a
  · rfl
  · cases hb : isF b
    · rfl
    · obtain ⟨hna, haa⟩ := (isF_iff a).1 ha
      obtain ⟨hnb, hbb⟩ := (isF_iff b).1 hb
      have hn : Nonneg (a ++ b) := fun x hx => (List.mem_append.1 hx).elim (hna x) (hnb x)
      have hany : (a ++ b).any negR = false := by
        rw [List.any_eq_false]
        intro x hx
        have := hn x hx
        simp [negR]
        omega
      have hr : rmakeF (a ++ b) = rmakeL [] (a ++ b) := by rw [rmakeF, hany]; rfl
      have hci := clash_iff haa hbb hnb
      rcases rmakeL_spec (a ++ b) [] (by simp [Asc]) (fun z hz => by cases hz) hn with ⟨m, h1, h2, h3⟩ | ⟨h1, h2⟩
      · have hcl : clashF a b = false := by
          cases h : clashF a b
          · rfl
          · exfalso
            obtain ⟨p, hp, q, hq, e, hne⟩ := hci.1 h
            exact hne (congrArg Prod.snd (asc_inj h2 ((h3 p).2 (.inr hp)) ((h3 q).2 (.inr hq)) e))
        rw [hcl, hr, h1]; rfl
      · have hcl : clashF a b = true := hci.2 (by simpa using h2)
        rw [hcl, hr, h1]; rfl

set_option maxHeartbeats 2000000 in
theorem join_calls (u v : Value) (a b : List Fact) (w : World) (hu : FactsAt w u a) (hv : FactsAt w v b) (hsum : (a.length + b.length) * 16 ≤ 140737488355328) :
    Calls Try.prog 14 #[u, v] w fun e w' => ∃ v', e = .returned (.tuple #[v', .bool (joinF a b).2]) ∧ OwnF w' w.heap.size v' (joinF a b).1 ∧ Below w.heap.size w w' := by
  obtain ⟨A, n, c, rfl, hn, hm⟩ := hv.form
  obtain ⟨A', n', c', rfl, hn', hm'⟩ := hu.form
  obtain ⟨i0, hi0, hz0, hz1, hz2⟩ := info_parts factInfo
  have h1 := valid_calls _ a w hu
  have h2 := fun (W : World) (hb : Below w.heap.size w W) => valid_calls _ b W (hv.keep hb)
  cases ha : isF a
  · have hfin : joinF a b = ([], false) := by simp [joinF, ha]
    rw [hfin]
    rw [ha] at h1
    have H1 := Lib.hid h1
    have H2 := Lib.hid h2
    have HA := Lib.hid ha
    have HU := Lib.hid hu
    have HV := Lib.hid hv
    have HN := Lib.hid hn
    have HN' := Lib.hid hn'
    have HFIN := Lib.hid hfin
    clear h1 h2 ha hu hv hn hn' hfin
    go_enter Try.func14, Try.ntmps14
    go_wp2_with (go_at_call 36; refine H1.out.mono ?_; rintro e w1 ⟨rfl, hb1⟩)
    go_ret2
    exact ⟨_, rfl, ⟨rfl, .inl ⟨rfl, rfl⟩⟩, hb1⟩
  · cases hb : isF b
    · have hfin : joinF a b = ([], false) := by simp [joinF, hb]
      rw [hfin]
      rw [ha] at h1
      rw [hb] at h2
      have H1 := Lib.hid h1
      have H2 := Lib.hid h2
      have HA := Lib.hid ha
      have HB := Lib.hid hb
      have HU := Lib.hid hu
      have HV := Lib.hid hv
      have HN := Lib.hid hn
      have HN' := Lib.hid hn'
      have HFIN := Lib.hid hfin
      clear h1 h2 ha hb hu hv hn hn' hfin
      go_enter Try.func14, Try.ntmps14
      go_wp2_with fail
      refine H1.out.mono ?_
      rintro e w1 ⟨rfl, hb1⟩
      go_wp2_with fail
      refine (H2.out _ hb1).mono ?_
      rintro e w2 ⟨rfl, hb2⟩
      go_wp2_with fail
      go_ret2
      exact ⟨_, rfl, ⟨rfl, .inl ⟨rfl, rfl⟩⟩, belowT hb1 hb2⟩
    · have hfin : joinF a b = ((makeF (a ++ b)).1, decide ((makeF (a ++ b)).2 = 0)) := by simp [joinF, ha, hb]
      rw [hfin]
      rw [ha] at h1
      rw [hb] at h2
      have hmk := fun (W : World) (vv : Value) (hh : FactsAt W vv (a ++ b)) => make_calls vv (a ++ b) W hh
      obtain ⟨⟨ml, mc⟩, hmm⟩ : ∃ p, makeF (a ++ b) = p := ⟨_, rfl⟩
      rw [hmm] at hmk ⊢
      simp only at hmk ⊢
      have H1 := Lib.hid h1
      have H2 := Lib.hid h2
      have HA := Lib.hid ha
      have HB := Lib.hid hb
      have HU := Lib.hid hu
      have HV := Lib.hid hv
      have HN := Lib.hid hn
      have HN' := Lib.hid hn'
      have HFIN := Lib.hid hfin
      have HMK := Lib.hid hmk
      have HMM := Lib.hid hmm
      clear h1 h2 ha hb hu hv hn hn' hfin hmk hmm
      go_enter Try.func14, Try.ntmps14
      go_wp2_with fail
      refine H1.out.mono ?_
      rintro e w1 ⟨rfl, hb1⟩
      go_wp2_with fail
      refine (H2.out _ hb1).mono ?_
      rintro e w2 ⟨rfl, hb2⟩
      have hbw2 := belowT hb1 hb2
      clear hb1 hb2
      go_wp2_with fail
      refine (cloneF_calls _ a _ (HU.out.keep hbw2)).mono ?_
      rintro e w3 ⟨v3, rfl, hown3, hb3⟩
      obtain ⟨A3, c3, rfl⟩ := hown3.form
      have hbw3 := belowT hbw2 hb3
      have hr := (HV.out.keep hbw3).reads
      generalize hal : a.length = al at hown3 hsum ⊢
      have HR := Lib.hid hr
      have HO3 := Lib.hid hown3
      have HAL := Lib.hid hal
      clear hr hown3 hal
      go_wp2_with (at_builtin; refine wpList_append_any _ rfl (.tmp 18) (.tmp 19) _ rfl w2.heap.size 56 i0 _ 2 16 Try.underlying22 hi0 hz0 hz1 hz2 rfl (by omega) (.slice A3 al c3) a.length (factCells a) rfl HO3.out _ _ n c (factCells b) rfl HR.out (factCells_one b) (by simp only [maxLen]; have := HAL.out; have := HN.out; omega) (by have := HAL.out; have := HN.out; omega) hb3.size ?_; intro v4 w4 hown4 hg4 hat4)
      have ho4 : OwnF w4 w2.heap.size v4 (a ++ b) := by
        unfold OwnF
        rw [factCells_append, List.length_append, ← HN.out]
        exact hown4
      have hbw4 : Below w.heap.size w w4 := hbw3.grown hg4 hbw3.size (fun k hk => by have := (HO3.out.lt k hk).1; have := hbw2.size; omega)
      have hf4 : FactsAt w4 v4 (a ++ b) := ho4.facts (by rw [List.length_append, HAL.out]; have := HN.out; omega)
      clear hown4 hg4 hat4 ho4
      refine (HMK.out _ _ hf4).mono ?_
      rintro e w5 ⟨v5, rfl, hown5, hb5⟩
      have hbw5 := belowT hbw4 hb5
      have ho5 := own_mono hown5 hbw4.size
      have HO5 := Lib.hid ho5
      have HBW5 := Lib.hid hbw5
      clear ho5 hbw5
      clear hown5 hb5 hf4
      by_cases hmc : mc = 0
      · subst hmc
        rw [errV_zero]
        go_wp2_with fail
        refine wp_region_quiet_lit (by kernel_rfl) (by kernel_rfl) ?_
        repeat (any_goals (first | go_big_quiet_step (fail) | quiet_step (fail) | (refine wpQuiet_step (fun K hK => ?_); go_simp; split <;> (refine hK _ ?_; clear hK K))))
        all_goals (refine wpQuiet_nil ?_; intro _ hw'; obtain ⟨nq, hw''⟩ := hw'; subst hw'')
        all_goals (go_wp2_with fail; go_ret2; exact ⟨v5, by simp, ownF_keep HO5.out (below_drewN (Below.refl _ _) _), below_drewN HBW5.out _⟩)
      · have hd : decide (mc = 0) = false := by simpa using hmc
        rw [errV_ne hmc]
        have HMC := Lib.hid hmc
        have HD := Lib.hid hd
        clear hmc hd
        go_wp2_with fail
        refine wp_region_quiet_lit (by kernel_rfl) (by kernel_rfl) ?_
        repeat (any_goals (first | go_big_quiet_step (fail) | quiet_step (fail) | (refine wpQuiet_step (fun K hK => ?_); go_simp; split <;> (refine hK _ ?_; clear hK K))))
        all_goals (refine wpQuiet_nil ?_; intro _ hw'; obtain ⟨nq, hw''⟩ := hw'; subst hw'')
        all_goals (go_wp2_with fail; go_ret2; exact ⟨v5, by rw [HD.out]; rfl, ownF_keep HO5.out (below_drewN (Below.refl _ _) _), below_drewN HBW5.out _⟩)

set_option maxHeartbeats 2000000 in
theorem rjoin_calls (u v : Value) (a b : List Fact) (w : World) (hu : FactsAt w u a) (hv : FactsAt w v b) (hsum : (a.length + b.length) * 16 ≤ 140737488355328) :
    Calls Try.prog 15 #[u, v] w fun e w' => ∃ v', e = .returned (.tuple #[v', .bool (joinF a b).2]) ∧ OwnF w' w.heap.size v' (joinF a b).1 ∧ Below w.heap.size w w' := by
  rw [join_eq]
  obtain ⟨A, n, c, rfl, hn, hm⟩ := hv.form
  obtain ⟨A', n', c', rfl, hn', hm'⟩ := hu.form
  obtain ⟨i0, hi0, hz0, hz1, hz2⟩ := info_parts factInfo
  have h1 := is_calls _ a w hu
  have h2 := fun (W : World) (hb : Below w.heap.size w W) => is_calls _ b W (hv.keep hb)
  have h3 := fun (W : World) (hb : Below w.heap.size w W) => clash_calls _ _ a b W (hu.keep hb) (hv.keep hb)
  cases ha : isF a
  · have hfin : rjoinF a b = ([], false) := by simp [rjoinF, ha]
    rw [hfin]
    rw [ha] at h1
    have H1 := Lib.hid h1
    have H2 := Lib.hid h2
    have H3 := Lib.hid h3
    have HA := Lib.hid ha
    have HU := Lib.hid hu
    have HV := Lib.hid hv
    have HN := Lib.hid hn
    have HN' := Lib.hid hn'
    have HFIN := Lib.hid hfin
    clear h1 h2 h3 ha hu hv hn hn' hfin
    go_enter Try.func15, Try.ntmps15
    go_wp2_with (go_at_call 39; refine H1.out.mono ?_; rintro e w1 ⟨rfl, hb1⟩)
    go_ret2
    exact ⟨_, rfl, ⟨rfl, .inl ⟨rfl, rfl⟩⟩, hb1⟩
  · cases hb : isF b
    · have hfin : rjoinF a b = ([], false) := by simp [rjoinF, hb]
      rw [hfin]
      rw [ha] at h1
      rw [hb] at h2
      have H1 := Lib.hid h1
      have H2 := Lib.hid h2
      have H3 := Lib.hid h3
      have HA := Lib.hid ha
      have HB := Lib.hid hb
      have HU := Lib.hid hu
      have HV := Lib.hid hv
      have HN := Lib.hid hn
      have HN' := Lib.hid hn'
      have HFIN := Lib.hid hfin
      clear h1 h2 h3 ha hb hu hv hn hn' hfin
      go_enter Try.func15, Try.ntmps15
      go_wp2_with fail
      refine H1.out.mono ?_
      rintro e w1 ⟨rfl, hb1⟩
      go_wp2_with fail
      refine (H2.out _ hb1).mono ?_
      rintro e w2 ⟨rfl, hb2⟩
      go_wp2_with fail
      go_ret2
      exact ⟨_, rfl, ⟨rfl, .inl ⟨rfl, rfl⟩⟩, belowT hb1 hb2⟩
    · cases hcl : clashF a b
      · have hfin : rjoinF a b = ((rmakeF (a ++ b)).1, true) := by simp [rjoinF, ha, hb, hcl]
        rw [hfin]
        rw [ha] at h1
        rw [hb] at h2
        rw [hcl] at h3
        have hmk := fun (W : World) (vv : Value) (hh : FactsAt W vv (a ++ b)) => rmake_calls vv (a ++ b) W hh
        obtain ⟨⟨ml, mc⟩, hmm⟩ : ∃ p, rmakeF (a ++ b) = p := ⟨_, rfl⟩
        rw [hmm] at hmk ⊢
        simp only at hmk ⊢
        have H1 := Lib.hid h1
        have H2 := Lib.hid h2
        have H3 := Lib.hid h3
        have HA := Lib.hid ha
        have HB := Lib.hid hb
        have HCL := Lib.hid hcl
        have HU := Lib.hid hu
        have HV := Lib.hid hv
        have HN := Lib.hid hn
        have HN' := Lib.hid hn'
        have HFIN := Lib.hid hfin
        have HMK := Lib.hid hmk
        have HMM := Lib.hid hmm
        clear h1 h2 h3 ha hb hcl hu hv hn hn' hfin hmk hmm
        go_enter Try.func15, Try.ntmps15
        go_wp2_with fail
        refine H1.out.mono ?_
        rintro e w1 ⟨rfl, hb1⟩
        go_wp2_with fail
        refine (H2.out _ hb1).mono ?_
        rintro e w2' ⟨rfl, hb2⟩
        go_wp2_with fail
        refine (H3.out _ (belowT hb1 hb2)).mono ?_
        rintro e w2 ⟨rfl, hb3⟩
        have hbw2 := belowT (belowT hb1 hb2) hb3
        clear hb1 hb2 hb3
        have hr := ((HU.out.keep hbw2).keep (belowA (Below.refl _ _) (.cells #[] 56))).reads
        have hown : (w2.alloc (.cells #[] 56)).ownsRow w2.heap.size 56 2 (.slice (some ⟨w2.heap.size, 0, none⟩) 0 0) 0 [] := ⟨rfl, .inr ⟨w2.heap.size, 0, #[], rfl, Nat.le_refl _, heap_alloc_new _ _, Nat.le_refl _, Nat.zero_le _, rfl, rfl⟩⟩
        have HR := Lib.hid hr
        have HOWN := Lib.hid hown
        have HBW2 := Lib.hid hbw2
        clear hr hown hbw2
        go_wp2_with (first
          | (at_builtin
             refine wpList_append_any _ rfl (.tmp 22) (.tmp 23) _ rfl w2.heap.size 56 i0 _ 2 16 Try.underlying22 hi0 hz0 hz1 hz2 rfl (by omega) (.slice (some ⟨w2.heap.size, 0, none⟩) 0 0) 0 [] rfl HOWN.out _ _ n' c' (factCells a) rfl HR.out (factCells_one a) (by simp only [maxLen]; omega) (by have := HN'.out; omega) (by simp) ?_
             intro v3 w3 hown3 hg3 hat3
             have hbw3 := (belowA HBW2.out _).grown hg3 (by have := HBW2.out.size; simp; omega) (by intro k hk; simp [Value.ownBlock] at hk; have := HBW2.out.size; omega)
             have HR3 := Lib.hid (HV.out.keep hbw3).reads
             have HO3 := Lib.hid hown3
             have HBW3 := Lib.hid hbw3
             have HSZ3 := Lib.hid (show w2.heap.size ≤ w3.heap.size by have := hg3.size; simp at this; omega)
             clear hown3 hg3 hat3 hbw3)
          | (at_builtin
             refine wpList_append_any _ rfl (.tmp 24) (.tmp 25) _ rfl w2.heap.size 56 i0 _ 2 16 Try.underlying22 hi0 hz0 hz1 hz2 rfl (by omega) v3 (0 + n') ([] ++ factCells a) rfl HO3.out _ _ n c (factCells b) rfl HR3.out (factCells_one b) (by simp only [maxLen]; omega) (by have := HN'.out; have := HN.out; omega) HSZ3.out ?_
             intro v4 w4 hown4 hg4 hat4))
        have ho4 : OwnF w4 w2.heap.size v4 (a ++ b) := by
          unfold OwnF
          rw [factCells_append, List.length_append, ← HN.out, ← HN'.out]
          rw [Nat.zero_add, List.nil_append] at hown4
          exact hown4
        have hbw4 : Below w.heap.size w w4 := HBW3.out.grown hg4 HBW3.out.size (fun k hk => by have := (HO3.out.lt k hk).1; have := HBW2.out.size; omega)
        have hf4 : FactsAt w4 v4 (a ++ b) := ho4.facts (by rw [List.length_append]; omega)
        clear hown4 hg4 hat4 ho4
        refine (HMK.out _ _ hf4).mono ?_
        rintro e w5 ⟨v5, rfl, hown5, hb5⟩
        have hbw5 := belowT hbw4 hb5
        have ho5 := own_mono hown5 hbw4.size
        have HO5 := Lib.hid ho5
        have HBW5 := Lib.hid hbw5
        clear ho5 hbw5
        clear hown5 hb5 hf4
        go_wp2_with fail
        go_ret2
        exact ⟨v5, rfl, HO5.out, HBW5.out⟩
      · have hfin : rjoinF a b = ([], false) := by simp [rjoinF, hcl]
        rw [hfin]
        rw [ha] at h1
        rw [hb] at h2
        rw [hcl] at h3
        have H1 := Lib.hid h1
        have H2 := Lib.hid h2
        have H3 := Lib.hid h3
        have HA := Lib.hid ha
        have HB := Lib.hid hb
        have HCL := Lib.hid hcl
        have HU := Lib.hid hu
        have HV := Lib.hid hv
        have HN := Lib.hid hn
        have HN' := Lib.hid hn'
        have HFIN := Lib.hid hfin
        clear h1 h2 h3 ha hb hcl hu hv hn hn' hfin
        go_enter Try.func15, Try.ntmps15
        go_wp2_with fail
        refine H1.out.mono ?_
        rintro e w1 ⟨rfl, hb1⟩
        go_wp2_with fail
        refine (H2.out _ hb1).mono ?_
        rintro e w2 ⟨rfl, hb2⟩
        go_wp2_with fail
        refine (H3.out _ (belowT hb1 hb2)).mono ?_
        rintro e w3 ⟨rfl, hb3⟩
        go_wp2_with fail
        go_ret2
        exact ⟨_, rfl, ⟨rfl, .inl ⟨rfl, rfl⟩⟩, belowT (belowT hb1 hb2) hb3⟩
end Go.Proofs.Ytpogmkplmcedlaa
