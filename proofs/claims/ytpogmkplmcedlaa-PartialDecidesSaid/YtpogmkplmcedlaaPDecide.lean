/- (*partial.cover).decide. -/
import Derived.Test.YtpogmkplmcedlaaRDecide
import Derived.Test.YtpogmkplmcedlaaHush
namespace Go.Proofs.Ytpogmkplmcedlaa
open Go.RowKit

theorem ploopF_step (g : Int → Int → Bool × Int × Bool) (u : Int) (Z k : Nat) (h : k < Z) : ploopF g (Z - k) k u = if (g k u).1 then ploopF g (Z - (k + 1)) ((k + 1 : Nat) : Int) (g k u).2.1 else g k u := by
  rw [show Z - k = (Z - (k + 1)) + 1 by omega, ploopF]
  rfl
theorem ploop_full (g : Int → Int → Bool × Int × Bool) : ∀ (k : Nat) (x u : Int), (ploopF g k x u).1 = true → (ploopF g k x u).2.2 = false
  | 0, _, _, _ => rfl
  | k + 1, x, u, h => by
    rw [ploopF] at h ⊢
    split
    · rename_i hc
      rw [if_pos hc] at h
      exact ploop_full g k _ _ h
    · rename_i hc
      rw [if_neg hc] at h
      exact absurd h hc
theorem pdec_full (vars : List Int) (steps : Int) : ∀ (d : Nat) (p : List Fact) (L : List (List Fact)) (used : Int), (pdecF vars steps d p L used).1 = true → (pdecF vars steps d p L used).2.2 = false
  | 0, _, _, _, _ => rfl
  | d + 1, p, L, used, h => by
    rw [pdecF] at h ⊢
    split
    · rename_i h1; rw [if_pos h1] at h; cases h
    · rename_i h1
      rw [if_neg h1] at h
      split
      · rfl
      · rename_i h2
        rw [if_neg h2] at h
        split
        · rfl
        · rename_i h3
          rw [if_neg h3] at h
          exact ploop_full _ _ _ _ h
theorem grown_undrewN {w w1 : World} {q : Nat} {row : Option Nat} (h : (w.drewN q).grownBy w1 row) : w.grownBy w1 row := ⟨h.os, h.tape, h.output, h.size, h.block⟩
theorem ploop_ge (g : Int → Int → Bool × Int × Bool) : ∀ (k : Nat) (x u : Int), (∀ y v, v ≤ (g y v).2.1) → u ≤ (ploopF g k x u).2.1
  | 0, _, _, _ => Int.le_refl _
  | k + 1, x, u, h => by
    rw [ploopF]
    split
    · exact Int.le_trans (h x u) (ploop_ge g k _ _ h)
    · exact h x u
theorem pdec_ge (vars : List Int) (steps : Int) : ∀ (d : Nat) (p : List Fact) (L : List (List Fact)) (used : Int), used ≤ (pdecF vars steps d p L used).2.1
  | 0, _, _, _ => Int.le_refl _
  | d + 1, p, L, used => by
    rw [pdecF]
    split
    · exact Int.le_refl _
    · split
      · simp only; omega
      · split
        · simp only; omega
        · exact Int.le_trans (by omega) (ploop_ge _ _ _ _ (fun y v => pdec_ge vars steps d _ _ v))
theorem DecPre.rest {vars : List Int} {list : List (List Fact)} {d : Nat} {r : List Fact} (h : DecPre vars list d r) (q : List Fact) : DecPre vars (restL q list) d r :=
  ⟨h.prop, fun x hx => h.all x (List.mem_filter.1 hx).1, h.deep, h.low, h.prod⟩
theorem rest_free {vars : List Int} {list : List (List Fact)} {p : List Fact} (hL : ∀ x ∈ list, propF vars x = true) {v : Int} (hv : leastA p vars.length (restL p list) = v) (hne : v ≠ vars.length) : 0 ≤ v ∧ v < vars.length ∧ valueF p v < 0 := by
  rcases leastA_or p (restL p list) vars.length with h | ⟨y, hy, g, hg, h6, h7⟩
  · omega
  · rw [← hv, h7]
    have := ((propF_iff vars y).1 (hL y (List.mem_filter.1 hy).1)).2 g hg
    exact ⟨this.1, this.2.1, h6⟩
theorem restL_cons (p x : List Fact) (t : List (List Fact)) : restL p (x :: t) = if clashF x p then restL p t else x :: restL p t := by
  unfold restL
  rw [List.filter_cons]
  cases clashF x p <;> rfl

def coverA (sv : Value) (used steps : Int) (full : Bool) : Array Value := #[sv, .int .i64 used, .int .i64 steps, .bool full]

set_option maxHeartbeats 8000000 in
set_option maxRecDepth 100000 in
theorem pdecide_calls (vars : List Int) (steps : Int) (cb : Nat) (sv : Value) (hsteps : steps ≤ 9223372036854775807) : ∀ (d : Nat) (pv lv : Value) (p : List Fact) (list : List (List Fact)) (used : Int) (w : World), IntsAt (hush cb w) sv vars → FactsAt (hush cb w) pv p → ListsAt (hush cb w) lv list → DecPre vars list d p → 0 ≤ used →
    w.heap[cb]? = some (.cells (coverA sv used steps false) 72 (0, 0)) →
    Calls Try.prog 50 #[.pointer (some ⟨cb, 0, none⟩), pv, lv] w fun e w' => e = .returned (.bool (pdecF vars steps d p list used).1) ∧
      w'.heap[cb]? = some (.cells (coverA sv (pdecF vars steps d p list used).2.1 steps (pdecF vars steps d p list used).2.2) 72 (0, 0)) ∧ w.grownBy w' (some cb)
  | 0, pv, lv, p, list, used, w, hs, hp, hl, hpre, hu, hc => by have := prop_len hpre.prop; have := hpre.deep; omega
  | d + 1, pv, lv, p, list, used, w, hs, hp, hl, hpre, hu, hc => by
    obtain ⟨A, n, c, rfl, hn, hm⟩ := hl.form
    obtain ⟨sA, sn, sc, rfl, hsn, hsm⟩ := hs.form
    obtain ⟨pA, pn, pc, rfl, hpn, hpm⟩ := hp.form
    have ih := pdecide_calls vars steps cb (.slice sA sn sc) hsteps d
    have k0 : w.cell? ⟨cb, 0, none⟩ = some (.slice sA sn sc) := by simp [World.cell?, hc, coverA]
    have k1 : w.cell? ⟨cb, 1, none⟩ = some (.int .i64 used) := by simp [World.cell?, hc, coverA]
    have k2 : w.cell? ⟨cb, 2, none⟩ = some (.int .i64 steps) := by simp [World.cell?, hc, coverA]
    have k3 : w.cell? ⟨cb, 3, none⟩ = some (.bool false) := by simp [World.cell?, hc, coverA]
    have kf : ∀ j, w.frozen? ⟨cb, j, none⟩ = false := fun j => by simp [World.frozen?, hc]
    obtain ⟨D, hD⟩ : ∃ D, pdecF vars steps (d + 1) p list used = D := ⟨_, rfl⟩
    by_cases hfull : steps ≤ used
    · have hfin : D = (false, used, true) := by rw [← hD, pdecF, if_pos hfull]
      rw [hD]
      clear ih
      have HS := Lib.hid hs
      have HP := Lib.hid hp
      have HL := Lib.hid hl
      have HN := Lib.hid hn
      have HSN := Lib.hid hsn
      have HPN := Lib.hid hpn
      have HFIN := Lib.hid hfin
      have HPRE := Lib.hid hpre
      have HC := Lib.hid hc
      have HD := Lib.hid hD
      clear hs hp hl hn hsn hpn hfin hpre hc hD
      go_enter Try.func50, Try.ntmps50
      go_upto_region 1 with fail
      refine wp_region_quiet_lit (by kernel_rfl) (by kernel_rfl) ?_
      repeat (any_goals (first | go_big_quiet_step (fail) | quiet_step (fail) | (refine wpQuiet_step (fun K hK => ?_); go_simp; split <;> (refine hK _ ?_; clear hK K))))
      all_goals (refine wpQuiet_nil ?_; intro _ hw'; obtain ⟨nq, hw''⟩ := hw'; subst hw'')
      all_goals
        go_wp2
        go_ret
        rw [HFIN.out]
        exact ⟨rfl, set_block HC.out _ _ rfl, grown_undrewN (set_grown (w := w.drewN nq) HC.out _)⟩
    · have hdec : D = if phitL p list then (true, used + 1, false)
          else if leastA p vars.length (restL p list) = vars.length then (false, used + 1, false)
          else ploopF (fun x u => pdecF vars steps d (pwithF p (leastA p vars.length (restL p list), x)) (restL p list) u) (vars.getD (leastA p vars.length (restL p list)).toNat 0).toNat 0 (used + 1) := by rw [← hD, pdecF, if_neg hfull]
      rw [hD]
      have HS := Lib.hid hs
      have HP := Lib.hid hp
      have HL := Lib.hid hl
      have HN := Lib.hid hn
      have HSN := Lib.hid hsn
      have HPN := Lib.hid hpn
      have HPRE := Lib.hid hpre
      have HC := Lib.hid hc
      have HD := Lib.hid hD
      have HDEC := Lib.hid hdec
      have IH := Lib.hid ih
      clear hs hp hl hn hsn hpn hpre hc hD hdec ih
      go_enter Try.func50, Try.ntmps50
      go_upto_region 1 with fail
      refine wp_region_quiet_lit (by kernel_rfl) (by kernel_rfl) ?_
      repeat (any_goals (first | go_big_quiet_step (fail) | quiet_step (fail) | (refine wpQuiet_step (fun K hK => ?_); go_simp; split <;> (refine hK _ ?_; clear hK K))))
      all_goals (refine wpQuiet_nil ?_; intro _ hw'; obtain ⟨nq, hw''⟩ := hw'; subst hw'')
      go_wp2
      have hw1 : ((w.drewN nq).setCell ⟨cb, 1, none⟩ (.int .i64 (used + 1))).heap[cb]? = some (.cells (coverA (.slice sA sn sc) (used + 1) steps false) 72 (0, 0)) := set_block HC.out _ _ rfl
      have hg1 : w.grownBy ((w.drewN nq).setCell ⟨cb, 1, none⟩ (.int .i64 (used + 1))) (some cb) := grown_undrewN (set_grown (w := w.drewN nq) HC.out _)
      generalize (w.drewN nq).setCell ⟨cb, 1, none⟩ (.int .i64 (used + 1)) = w1 at hw1 hg1 ⊢
      have hb1 := hush_below hg1 HC.out hw1
      have hs1 := HS.out.keep hb1
      have hp1 := HP.out.keep hb1
      have hl1 := HL.out.keep hb1
      have hcw : cb < w1.heap.size := (Array.getElem?_eq_some_iff.1 hw1).1
      clear hb1 k0 k1 k2 k3 kf
      have HS1 := Lib.hid hs1
      have HP1 := Lib.hid hp1
      have HL1 := Lib.hid hl1
      have HW1 := Lib.hid hw1
      have HG1 := Lib.hid hg1
      clear hs1 hp1 hl1 hw1 hg1
      go_loopg [7, 37] n (fun g o i wr => ∃ (k : Nat) (acc : List (List Fact)), k ≤ n ∧ g = n - k ∧ i = .int .i64 k ∧ Below w1.heap.size w1 wr ∧ acc.length ≤ k ∧ OwnV (FactsAt (hush cb w1)) wr w1.heap.size o acc ∧ phitL p list = phitL p (list.drop k) ∧ restL p list = acc ++ restL p (list.drop k))
      case atStart => exact ⟨0, [], Nat.zero_le _, by omega, rfl, Below.refl _ _, by simp, OwnV.nil_ _ _, rfl, rfl⟩
      case round =>
        obtain ⟨k, acc, hk, hg, rfl, hB, hacc, hown, hF1, hF2⟩ := hrel
        have HG := Lib.hid hg
        have HF1 := Lib.hid hF1
        have HF2 := Lib.hid hF2
        have HACC := Lib.hid hacc
        have HOWN := Lib.hid hown
        clear hg hF1 hF2 hacc hown
        by_cases hlt : k < n
        · obtain ⟨bb, off, xA, xn, xc, x, rfl, c0h, hxn, hxm, hxh, hx, hdr⟩ := HL1.out.at hlt
          have c0 := kept hB (hush_cell c0h).1
          have hxv := hxh.unhush.keep hB
          have hbr : bb < wr.heap.size := lt_of_cell c0
          have h1 := contains_calls _ _ p x _ (HP1.out.unhush.keep hB) hxv
          have h2 := fun (W : World) (hb : Below wr.heap.size wr W) => conflict_calls _ _ x p W (hxv.keep hb) ((HP1.out.unhush.keep hB).keep hb)
          have hs1 : phitL p list = (containsF p x || phitL p (list.drop (k + 1))) := by rw [HF1.out, hdr]; rfl
          have hs2 : restL p list = acc ++ (if clashF x p then restL p (list.drop (k + 1)) else x :: restL p (list.drop (k + 1))) := by rw [HF2.out, hdr, restL_cons]
          clear c0h
          generalize containsF p x = tc at h1 hs1
          generalize clashF x p = tl at h2 hs2
          cases tc
          · cases tl
            · simp only [Bool.false_eq_true, if_false] at hs2
              have hs2' : restL p list = (acc ++ [x]) ++ restL p (list.drop (k + 1)) := by rw [hs2]; simp
              rw [Bool.false_or] at hs1
              have HX := Lib.hid hx
              have HDR := Lib.hid hdr
              have HXV := Lib.hid hxv
              have HXN := Lib.hid hxn
              have H1 := Lib.hid h1
              have H2 := Lib.hid h2
              have HSS1 := Lib.hid hs1
              have HSS2 := Lib.hid hs2
              have HSS3 := Lib.hid hs2'
              have HXH := Lib.hid hxh
              clear hx hdr hxv hxn h1 h2 hs1 hs2 hs2' hxh
              go_wp2_with (first
                | (go_at_call 41; refine H1.out.mono ?_; rintro e w2 ⟨rfl, hb2⟩)
                | (go_at_call 58; refine (H2.out _ hb2).mono ?_; rintro e w3 ⟨rfl, hb3⟩; have HB3 := Lib.hid (belowT hB (belowT hb2 hb3)); have HO3 := Lib.hid (HOWN.out.keep (belowT hb2 hb3)))
                | (at_builtin; refine wpList_append_v rfl (.tmp 48) (.tmp 50) rfl (FactsAt (hush cb w1)) w3 w1.heap.size _ acc xA xn xc x rfl HO3.out HXH.out rfl (by have := HACC.out; omega) HB3.out.size ?_; intro v5 w5 hown5 hg5 hge5))
              go_roundg (n - (k + 1))
              case measure => have := HG.out; omega
              case rel => exact ⟨k + 1, acc ++ [x], by omega, rfl, by go_num, (belowA HB3.out _).grown hg5 (by have := HB3.out.size; simp; omega) hge5, by have := HACC.out; simp; omega, hown5, HSS1.out, HSS3.out⟩
            · simp only [if_true] at hs2
              rw [Bool.false_or] at hs1
              have HX := Lib.hid hx
              have HDR := Lib.hid hdr
              have HXV := Lib.hid hxv
              have HXN := Lib.hid hxn
              have H1 := Lib.hid h1
              have H2 := Lib.hid h2
              have HSS1 := Lib.hid hs1
              have HSS2 := Lib.hid hs2
              have HXH := Lib.hid hxh
              clear hx hdr hxv hxn h1 h2 hs1 hs2 hxh
              go_wp2_with (first
                | (go_at_call 41; refine H1.out.mono ?_; rintro e w2 ⟨rfl, hb2⟩)
                | (go_at_call 58; refine (H2.out _ hb2).mono ?_; rintro e w3 ⟨rfl, hb3⟩))
              go_roundg (n - (k + 1))
              case measure => have := HG.out; omega
              case rel => exact ⟨k + 1, acc, by omega, rfl, by go_num, belowT hB (belowT hb2 hb3), by have := HACC.out; omega, HOWN.out.keep (belowT hb2 hb3), HSS1.out, HSS2.out⟩
          · have hfin : D = (true, used + 1, false) := by rw [HDEC.out, hs1]; rfl
            have HX := Lib.hid hx
            have HDR := Lib.hid hdr
            have HXV := Lib.hid hxv
            have HXN := Lib.hid hxn
            have H1 := Lib.hid h1
            have H2 := Lib.hid h2
            have HSS1 := Lib.hid hs1
            have HSS2 := Lib.hid hs2
            have HXH := Lib.hid hxh
            have HFIN := Lib.hid hfin
            clear hx hdr hxv hxn h1 h2 hs1 hs2 hxh hfin
            go_wp2_with (go_at_call 41; refine H1.out.mono ?_; rintro e w2 ⟨rfl, hb2⟩)
            go_ret
            rw [HFIN.out]
            exact ⟨rfl, ((belowT hB hb2).block cb hcw).trans HW1.out, World.grownBy.trans HG1.out (grown_of_below (belowT hB hb2) _)⟩
        · have hdn : list.drop k = [] := List.drop_eq_nil_of_le (by have := HN.out; omega)
          have h1 : phitL p list = false := by rw [HF1.out, hdn]; rfl
          have h2 : restL p list = acc := by rw [HF2.out, hdn]; simp [restL]
          have hdec := HDEC.out
          rw [h1, h2] at hdec
          simp only [Bool.false_eq_true, if_false] at hdec
          have hfree := fun v hv hne => rest_free (p := p) HPRE.out.all (v := v) hv hne
          rw [h2] at hfree
          have hrest := HPRE.out.rest p
          rw [h2] at hrest
          obtain ⟨A7, c7, rfl⟩ := HOWN.out.form
          obtain ⟨w2, rfl⟩ : ∃ w2 : World, w2 = wr := ⟨_, rfl⟩
          have hw2 : w2.heap[cb]? = some (.cells (coverA (.slice sA sn sc) (used + 1) steps false) 72 (0, 0)) := (hB.block cb hcw).trans HW1.out
          have hb12 := hush_below (grown_of_below hB (some cb)) HW1.out hw2
          have hls : ListsAt (hush cb w2) (.slice A7 acc.length c7) acc := (HOWN.out.hush hcw).lists (by have := HACC.out; omega) (fun fv x hR => hR.keep hb12)
          have hs2 := HS1.out.keep hb12
          have hp2 := HP1.out.keep hb12
          have hgr2 : w.grownBy w2 (some cb) := World.grownBy.trans HG1.out (grown_of_below hB _)
          have hcw2 : cb < w2.heap.size := (Array.getElem?_eq_some_iff.1 hw2).1
          have k0 : w2.cell? ⟨cb, 0, none⟩ = some (.slice sA sn sc) := by simp [World.cell?, hw2, coverA]
          have hkl : acc.length ≤ n := by have := HACC.out; omega
          clear hB hcw hb12 hdn h1 HF1 HF2 HG HACC HOWN HL1 HS1 HP1 HW1 HG1 HDEC
          obtain ⟨rn, hrn⟩ : ∃ rn, rn = acc.length := ⟨_, rfl⟩
          rw [← hrn] at hls ⊢
          rw [← hrn] at hkl
          have hsn' : ((sn : Int)) = (vars.length : Int) := by have := HSN.out; omega
          have H2 := Lib.hid h2
          have HDEC := Lib.hid hdec
          have HFREE := Lib.hid hfree
          have HREST := Lib.hid hrest
          have HW2 := Lib.hid hw2
          have HLS := Lib.hid hls
          have HS2 := Lib.hid hs2
          have HP2 := Lib.hid hp2
          have HGR2 := Lib.hid hgr2
          have HRN := Lib.hid hrn
          have HSN' := Lib.hid hsn'
          clear h2 hdec hfree hrest hw2 hls hs2 hp2 hgr2 hrn hsn'
          go_wp2_with fail
          go_loopg [10, 60] rn (fun g lv i wr => ∃ (k : Nat) (m : Int), k ≤ rn ∧ g = rn - k ∧ i = .int .i64 k ∧ lv = .int .i64 m ∧ Below w2.heap.size w2 wr ∧ leastA p vars.length acc = leastA p m (acc.drop k))
          case atStart => exact ⟨0, _, Nat.zero_le _, by omega, rfl, rfl, Below.refl _ _, by rw [← HSN'.out]; rfl⟩
          case round =>
            obtain ⟨k2, m, hk2, hg2, rfl, rfl, hB2, hF⟩ := hrel
            have HG2 := Lib.hid hg2
            have HF := Lib.hid hF
            clear hg2 hF
            by_cases hlt2 : k2 < rn
            · obtain ⟨bb, off, xA, xn, xc, x, rfl, c0, hxn, hxm, hxv, hx, hdr⟩ := (HLS.out.unhush.keep hB2).at hlt2
              have hbr : bb < wr.heap.size := lt_of_cell c0
              have hst : leastA p vars.length acc = leastA p (leastP p m x) (acc.drop (k2 + 1)) := by rw [HF.out, hdr, leastA]
              obtain ⟨w3, rfl⟩ : ∃ w3 : World, w3 = wr := ⟨_, rfl⟩
              have HX := Lib.hid hx
              have HDR := Lib.hid hdr
              have HXV := Lib.hid hxv
              have HXN := Lib.hid hxn
              have HST := Lib.hid hst
              clear hx hdr hxv hxn hst
              go_wp2_with fail
              go_loopg [10, 66] xn (fun g lv j wr => ∃ (i : Nat) (m' : Int), i ≤ xn ∧ g = xn - i ∧ j = .int .i64 i ∧ lv = .int .i64 m' ∧ Below w3.heap.size w3 wr ∧ leastP p m x = leastP p m' (x.drop i))
              case atStart => exact ⟨0, m, Nat.zero_le _, by omega, rfl, rfl, Below.refl _ _, rfl⟩
              case round =>
                obtain ⟨i, m', hi, hgi, rfl, rfl, hBi, hFI⟩ := hrel
                have HGI := Lib.hid hgi
                have HFI := Lib.hid hFI
                clear hgi hFI
                by_cases hlti : i < xn
                · obtain ⟨yb, yoff, y1, y2, rfl, y0, y1c, hy, hyd⟩ := (HXV.out.keep hBi).at hlti
                  have hyb : yb < wr.heap.size := lt_of_cell y0
                  have hst2 : leastP p m x = leastP p (if valueF p y1 < 0 then min m' y1 else m') (x.drop (i + 1)) := by rw [HFI.out, hyd, leastP]
                  by_cases hym : y1 < m'
                  · have h4 := find_calls _ p y1 _ (((HP2.out.unhush.keep (belowT hB2 hBi))).keep (belowA (Below.refl _ _) (.cells #[.int .i64 y1, .int .i64 y2] 56)))
                    generalize valueF p y1 = fv at h4 hst2
                    have q0 : (wr.alloc (.cells #[.int .i64 y1, .int .i64 y2] 56)).cell? ⟨wr.heap.size, 0, none⟩ = some (.int .i64 y1) := by simp
                    by_cases hfv : fv < 0
                    · rw [if_pos hfv, show min m' y1 = y1 by omega] at hst2
                      have HY := Lib.hid hy
                      have HYD := Lib.hid hyd
                      have H4 := Lib.hid h4
                      have HST2 := Lib.hid hst2
                      clear hy hyd h4 hst2
                      go_wp2_with (go_at_call 43; refine H4.out.mono ?_; rintro e w5 ⟨rfl, hb5⟩; have q1 := kept hb5 q0)
                      go_roundg (xn - (i + 1))
                      case measure => have := HGI.out; omega
                      case rel => exact ⟨i + 1, y1, by omega, rfl, by go_num, rfl, belowT hBi (belowT (belowA (Below.refl _ _) _) hb5), HST2.out⟩
                    · rw [if_neg hfv] at hst2
                      have HY := Lib.hid hy
                      have HYD := Lib.hid hyd
                      have H4 := Lib.hid h4
                      have HST2 := Lib.hid hst2
                      clear hy hyd h4 hst2
                      go_wp2_with (go_at_call 43; refine H4.out.mono ?_; rintro e w5 ⟨rfl, hb5⟩; have q1 := kept hb5 q0)
                      go_roundg (xn - (i + 1))
                      case measure => have := HGI.out; omega
                      case rel => exact ⟨i + 1, m', by omega, rfl, by go_num, rfl, belowT hBi (belowT (belowA (Below.refl _ _) _) hb5), HST2.out⟩
                  · have hst3 : leastP p m x = leastP p m' (x.drop (i + 1)) := by
                      rw [hst2]
                      split
                      · rw [show min m' y1 = m' by omega]
                      · rfl
                    clear hst2
                    have HY := Lib.hid hy
                    have HYD := Lib.hid hyd
                    have HST3 := Lib.hid hst3
                    clear hy hyd hst3
                    go_wp2_with fail
                    go_roundg (xn - (i + 1))
                    case measure => have := HGI.out; omega
                    case rel => exact ⟨i + 1, m', by omega, rfl, by go_num, rfl, belowA hBi _, HST3.out⟩
                · have hfin : leastP p m x = m' := by rw [HFI.out, List.drop_eq_nil_of_le (by have := HXN.out; omega), leastP]
                  have hnext : leastA p vars.length acc = leastA p m' (acc.drop (k2 + 1)) := by rw [HST.out, hfin]
                  have HFIN := Lib.hid hfin
                  have HNEXT := Lib.hid hnext
                  clear hfin hnext
                  go_wp2_with fail
                  go_roundg (rn - (k2 + 1))
                  case measure => have := HG2.out; omega
                  case rel => exact ⟨k2 + 1, m', by omega, rfl, by go_num, rfl, belowT hB2 hBi, HNEXT.out⟩
            · have hv : leastA p vars.length acc = m := by rw [HF.out, List.drop_eq_nil_of_le (by have := HRN.out; omega), leastA]
              have hdec := HDEC.out
              rw [hv] at hdec
              obtain ⟨w3, rfl⟩ : ∃ w3 : World, w3 = wr := ⟨_, rfl⟩
              have hw3 : w3.heap[cb]? = some (.cells (coverA (.slice sA sn sc) (used + 1) steps false) 72 (0, 0)) := (hB2.block cb hcw2).trans HW2.out
              have hgr3 : w.grownBy w3 (some cb) := World.grownBy.trans HGR2.out (grown_of_below hB2 _)
              have k0' : w3.cell? ⟨cb, 0, none⟩ = some (.slice sA sn sc) := kept hB2 k0
              by_cases hml : m = sn
              · have hfin : D = (false, used + 1, false) := by rw [hdec, if_pos (by have := HSN'.out; omega)]
                subst hml
                have HV := Lib.hid hv
                have HDEC2 := Lib.hid hdec
                have HW3 := Lib.hid hw3
                have HGR3 := Lib.hid hgr3
                have HFIN := Lib.hid hfin
                clear hv hdec hw3 hgr3 hfin
                go_wp2_with fail
                go_ret
                rw [HFIN.out]
                exact ⟨rfl, HW3.out, HGR3.out⟩
              · have hml2 : ¬ m = (vars.length : Int) := by have := HSN'.out; omega
                rw [if_neg hml2] at hdec
                obtain ⟨v0, v1, hfv⟩ := HFREE.out m hv hml2
                have hb23 := hush_below (grown_of_below hB2 (some cb)) HW2.out hw3
                have v1' : m < (sn : Int) := by have := HSN'.out; omega
                obtain ⟨sb, soff, z, rfl, cz, hz⟩ := (HS2.out.unhush.keep hB2).num v0 v1'
                have hsb : sb < w3.heap.size := lt_of_cell cz
                have hcw3 : cb < w3.heap.size := (Array.getElem?_eq_some_iff.1 hw3).1
                rw [hz] at hdec
                have hz6 : z ≤ 1000000 := by
                  have hpr := (pw_prodL HPRE.out.prop v0 hfv (x := 0) (by omega) (ones vars) 0).2 (by omega) (by simp [ones]; omega)
                  rw [Nat.sub_zero, ones_at v0 v1, hz] at hpr
                  have hQ := prodL_pos (pwithF p (m, 0)) (ones vars) 0 (ones_pos vars)
                  have h2 := HPRE.out.prod
                  rw [hpr] at h2
                  have h3 := Int.mul_le_mul_of_nonneg_left hQ (show 0 ≤ max z 1 by omega)
                  omega
                have hrl : p.length ≤ 1000 := by have := prop_len HPRE.out.prop; have := HPRE.out.low; omega
                have hpre' : ∀ y : Nat, y < z.toNat → DecPre vars acc d (pwithF p (m, (y : Int))) := fun y hy => HREST.out.step v0 v1 hfv (by omega) (by rw [hz]; omega)
                have hs3 := HS2.out.keep hb23
                have hp3 := HP2.out.keep hb23
                have hl3 := HLS.out.keep hb23
                have hpl : ∀ y : Int, (pwithF p (m, y)).length * 16 ≤ 140737488355328 := fun y => by rw [pwithF_len]; omega
                have hge := fun (y u : Int) => pdec_ge vars steps d (pwithF p (m, y)) acc u
                have hfl := fun (y u : Int) => pdec_full vars steps d (pwithF p (m, y)) acc u
                have HV := Lib.hid hv
                have HDEC2 := Lib.hid hdec
                have HW3 := Lib.hid hw3
                have HGR3 := Lib.hid hgr3
                have HZ := Lib.hid hz
                have HFV := Lib.hid hfv
                have HPRE' := Lib.hid hpre'
                have HS3 := Lib.hid hs3
                have HP3 := Lib.hid hp3
                have HL3 := Lib.hid hl3
                have HPL := Lib.hid hpl
                have HGE := Lib.hid hge
                have HFL := Lib.hid hfl
                clear hv hdec hw3 hgr3 hz hfv hpre' hs3 hp3 hl3 hpl hge hfl
                clear hb23
                have hbe : (m == (sn : Int)) = false := by simpa using hml
                go_wp2_with fail
                go_loopg [99] z.toNat (fun g i wr => ∃ (y : Nat) (u : Int), y ≤ z.toNat ∧ g = z.toNat - y ∧ i = .int .i64 y ∧ 0 ≤ u ∧ wr.heap[cb]? = some (.cells (coverA (.slice (some ⟨sb, soff, none⟩) sn sc) u steps false) 72 (0, 0)) ∧ w3.grownBy wr (some cb) ∧ D = ploopF (fun x u => pdecF vars steps d (pwithF p (m, x)) acc u) (z.toNat - y) y u)
                case atStart => exact ⟨0, used + 1, Nat.zero_le _, by omega, rfl, by omega, HW3.out, World.grownBy.refl _ _, HDEC2.out⟩
                case round =>
                  obtain ⟨y, u, hy, hgy, rfl, hu0, hc4, hgr4, hFY⟩ := hrel
                  by_cases hlty : y < z.toNat
                  · rw [ploopF_step _ _ _ _ hlty] at hFY
                    have hlty' : (y : Int) < z := by omega
                    obtain ⟨w4, rfl⟩ : ∃ w4 : World, w4 = wr := ⟨_, rfl⟩
                    have hb34 := hush_below hgr4 HW3.out hc4
                    have hp4 := (HP3.out.keep hb34).unhush
                    have hwi := pwith_calls _ p m (y : Int) w4 hp4 (by omega)
                    have hcw4 : cb < w4.heap.size := (Array.getElem?_eq_some_iff.1 hc4).1
                    have hih : ∀ (w5 : World) (v5 : Value), OwnF w5 w4.heap.size v5 (pwithF p (m, (y : Int))) → Below w4.heap.size w4 w5 → _ := fun w5 v5 ho hb5 =>
                      have hc5 : w5.heap[cb]? = some (.cells (coverA (.slice (some ⟨sb, soff, none⟩) sn sc) u steps false) 72 (0, 0)) := (hb5.block cb hcw4).trans hc4
                      have hb35 := belowT hb34 (hush_below (grown_of_below hb5 (some cb)) hc4 hc5)
                      IH.out v5 _ (pwithF p (m, (y : Int))) acc u w5 (HS3.out.keep hb35) ((OwnF.hush ho hcw4).facts (HPL.out _)) (HL3.out.keep hb35) (HPRE'.out y hlty) hu0 hc5
                    have hge1 := HGE.out (y : Int) u
                    have hfl1 := HFL.out (y : Int) u
                    obtain ⟨⟨ok, u1, f1⟩, hY⟩ : ∃ Y, pdecF vars steps d (pwithF p (m, (y : Int))) acc u = Y := ⟨_, rfl⟩
                    rw [hY] at hFY hih hge1 hfl1
                    simp only at hFY hih hge1 hfl1
                    have hbl : ∀ w5 : World, Below w4.heap.size w4 w5 → w3.grownBy w5 (some cb) := fun w5 hb5 => World.grownBy.trans hgr4 (grown_of_below hb5 _)
                    clear hc4 hgr4 hb34 hp4
                    cases ok
                    · simp only [Bool.false_eq_true, if_false] at hFY
                      have HFY := Lib.hid hFY
                      have HGY := Lib.hid hgy
                      have HWI := Lib.hid hwi
                      have HIH := Lib.hid hih
                      have HGE1 := Lib.hid hge1
                      have HFL1 := Lib.hid hfl1
                      have HY := Lib.hid hY
                      have HBL := Lib.hid hbl
                      clear hFY hgy hwi hih hge1 hfl1 hY hbl
                      go_wp2_with fail
                      refine HWI.out.mono ?_
                      rintro e w5 ⟨v5, rfl, hown5, hb5⟩
                      have HIH5 := Lib.hid (HIH.out w5 v5 hown5 hb5)
                      have HG5 := Lib.hid (HBL.out w5 hb5)
                      obtain ⟨A5, c5, rfl⟩ := hown5.form
                      clear hown5 hb5
                      go_wp2_with (go_at_call 50; refine HIH5.out.mono ?_; rintro e w6 ⟨rfl, hc6, hg6⟩; have HC6 := Lib.hid hc6; have HG6 := Lib.hid (World.grownBy.trans HG5.out hg6); clear hc6 hg6)
                      go_ret
                      rw [HFY.out]
                      exact ⟨rfl, HC6.out, World.grownBy.trans HGR3.out HG6.out⟩
                    · simp only [if_true] at hFY
                      have hf1 := hfl1 rfl
                      subst hf1
                      have HFY := Lib.hid hFY
                      have HGY := Lib.hid hgy
                      have HWI := Lib.hid hwi
                      have HIH := Lib.hid hih
                      have HGE1 := Lib.hid hge1
                      have HFL1 := Lib.hid hfl1
                      have HY := Lib.hid hY
                      have HBL := Lib.hid hbl
                      clear hFY hgy hwi hih hge1 hfl1 hY hbl
                      go_wp2_with fail
                      refine HWI.out.mono ?_
                      rintro e w5 ⟨v5, rfl, hown5, hb5⟩
                      have HIH5 := Lib.hid (HIH.out w5 v5 hown5 hb5)
                      have HG5 := Lib.hid (HBL.out w5 hb5)
                      obtain ⟨A5, c5, rfl⟩ := hown5.form
                      clear hown5 hb5
                      go_wp2_with (go_at_call 50; refine HIH5.out.mono ?_; rintro e w6 ⟨rfl, hc6, hg6⟩; have HC6 := Lib.hid hc6; have HG6 := Lib.hid (World.grownBy.trans HG5.out hg6); clear hc6 hg6)
                      go_roundg (z.toNat - (y + 1))
                      case measure => have := HGY.out; omega
                      case rel => exact ⟨y + 1, u1, by omega, rfl, by go_num, by have := HGE1.out; omega, HC6.out, HG6.out, HFY.out⟩
                  · have hge' : ¬ ((y : Int) < z) := by omega
                    have hfin : D = (true, u, false) := by rw [hFY, show z.toNat - y = 0 by omega]; rfl
                    have HFY := Lib.hid hFY
                    have HGY := Lib.hid hgy
                    have HFIN2 := Lib.hid hfin
                    have HC4 := Lib.hid hc4
                    have HGR4 := Lib.hid hgr4
                    clear hFY hgy hfin hc4 hgr4
                    go_wp2_with fail
                    go_ret
                    rw [HFIN2.out]
                    exact ⟨rfl, HC4.out, World.grownBy.trans HGR3.out HGR4.out⟩
end Go.Proofs.Ytpogmkplmcedlaa
