/- stratagemlaw06.wide, stratagembase.Many, partial.Covered, stratagemref06.Covered. -/
import Derived.Test.YtpogmkplmcedlaaPDecide
import Derived.Test.YtpogmkplmcedlaaErr
namespace Go.Proofs.Ytpogmkplmcedlaa
open Go.RowKit

/-- the closure of Covered: is an element not proper? -/
theorem covered1_calls (bx : Nat) (sv pv : Value) (vars : List Int) (p : List Fact) (w : World) (hb : w.cell? ⟨bx, 0, none⟩ = some sv) (hs : IntsAt w sv vars) (hp : FactsAt w pv p) :
    Calls Try.prog 49 #[pv, .pointer (some ⟨bx, 0, none⟩)] w fun e w' => e = .returned (.bool (!propF vars p)) ∧ Below w.heap.size w w' := by
  have h1 := facts_calls _ _ vars p w hs hp
  obtain ⟨A, n, c, rfl, hn, hm⟩ := hs.form
  obtain ⟨pA, pn, pc, rfl, hpn, hpm⟩ := hp.form
  generalize propF vars p = t at h1
  have H1 := Lib.hid h1
  have HS := Lib.hid hs
  have HP := Lib.hid hp
  have HN := Lib.hid hn
  have HPN := Lib.hid hpn
  clear h1 hs hp hn hpn
  go_enter Try.func49, Try.ntmps49
  go_wp2_with (go_at_call 42; refine H1.out.mono ?_; rintro e w1 ⟨rfl, hb1⟩)
  go_ret
  exact ⟨rfl, hb1⟩
def idxB (vars : List Int) : Nat → List (List Fact) → Int
  | _, [] => -1
  | k, x :: r => if propF vars x then idxB vars (k + 1) r else (k : Int)
theorem idxB_any (vars : List Int) (l : List (List Fact)) : ∀ k : Nat, decide (0 ≤ idxB vars k l) = !l.all (propF vars) := by
  induction l with
  | nil => intro k; simp [idxB]
  | cons x r ih =>
    intro k
    rw [idxB]
    cases h : propF vars x
    · simp [h]
    · simp only [if_true, ih, List.all_cons, h, Bool.true_and]

set_option maxHeartbeats 1000000 in
theorem indexFuncL_calls (bx : Nat) (sv v : Value) (vars : List Int) (l : List (List Fact)) (w : World) (hb : w.cell? ⟨bx, 0, none⟩ = some sv) (hs : IntsAt w sv vars) (hv : ListsAt w v l) :
    Calls Try.prog 57 #[v, .func (.func 49) #[] #[.pointer (some ⟨bx, 0, none⟩)]] w fun e w' => e = .returned (.int .i64 (idxB vars 0 l)) ∧ Below w.heap.size w w' := by
  obtain ⟨A, n, c, rfl, hn, hm⟩ := hv.form
  obtain ⟨sA, sn, sc, rfl, hsn, hsm⟩ := hs.form
  have HV := Lib.hid hv
  have HN := Lib.hid hn
  have HS := Lib.hid hs
  have HSN := Lib.hid hsn
  have HBX := Lib.hid hb
  clear hv hn hs hsn hb
  go_enter Try.func57, Try.ntmps57
  go_wp2
  go_loopg [8] n (fun g i wr => ∃ k : Nat, k ≤ n ∧ g = n - k ∧ i = .int .i64 k ∧ Below w.heap.size w wr ∧ idxB vars 0 l = idxB vars k (l.drop k))
  case atStart => exact ⟨0, Nat.zero_le _, by omega, rfl, Below.refl _ _, rfl⟩
  case round =>
    obtain ⟨k, hk, hg, rfl, hB, hF⟩ := hrel
    have HG := Lib.hid hg
    have HF := Lib.hid hF
    clear hg hF
    by_cases hlt : k < n
    · obtain ⟨b, off, xA, xn, xc, x, rfl, c0, hxn, hxm, hxv, hx, hd⟩ := (HV.out.keep hB).at hlt
      have hbr : b < wr.heap.size := lt_of_cell c0
      have h1 := covered1_calls bx _ _ vars x wr (kept hB HBX.out) (HS.out.keep hB) hxv
      have hst : idxB vars 0 l = if propF vars x then idxB vars (k + 1) (l.drop (k + 1)) else (k : Int) := by rw [HF.out, hd, idxB]
      generalize propF vars x = t at h1 hst
      cases t
      · simp only [Bool.false_eq_true, if_false] at hst
        have HX := Lib.hid hx
        have HD := Lib.hid hd
        have HST := Lib.hid hst
        have H1 := Lib.hid h1
        have HXV := Lib.hid hxv
        have HXN := Lib.hid hxn
        clear hx hd hst h1 hxv hxn
        go_wp2_with (go_at_call 49; refine H1.out.mono ?_; rintro e w1 ⟨rfl, hb1⟩)
        go_ret
        exact ⟨by rw [HST.out]; rfl, belowT hB hb1⟩
      · simp only [if_true] at hst
        have HX := Lib.hid hx
        have HD := Lib.hid hd
        have HST := Lib.hid hst
        have H1 := Lib.hid h1
        have HXV := Lib.hid hxv
        have HXN := Lib.hid hxn
        clear hx hd hst h1 hxv hxn
        go_wp2_with (go_at_call 49; refine H1.out.mono ?_; rintro e w1 ⟨rfl, hb1⟩)
        go_roundg (n - (k + 1))
        case measure => have := HG.out; omega
        case rel => exact ⟨k + 1, by omega, rfl, by go_num, belowT hB hb1, HST.out⟩
    · have hfin : idxB vars 0 l = -1 := by rw [HF.out, List.drop_eq_nil_of_le (by have := HN.out; omega), idxB]
      have HFIN := Lib.hid hfin
      clear hfin
      go_wp2
      go_ret
      exact ⟨by rw [HFIN.out]; rfl, hB⟩
theorem containsFuncL_calls (bx : Nat) (sv v : Value) (vars : List Int) (l : List (List Fact)) (w : World) (hb : w.cell? ⟨bx, 0, none⟩ = some sv) (hs : IntsAt w sv vars) (hv : ListsAt w v l) :
    Calls Try.prog 48 #[v, .func (.func 49) #[] #[.pointer (some ⟨bx, 0, none⟩)]] w fun e w' => e = .returned (.bool (!l.all (propF vars))) ∧ Below w.heap.size w w' := by
  have h1 := indexFuncL_calls bx sv v vars l w hb hs hv
  have h2 := idxB_any vars l 0
  obtain ⟨A, n, c, rfl, hn, hm⟩ := hv.form
  generalize idxB vars 0 l = z at h1 h2
  have H1 := Lib.hid h1
  have H2 := Lib.hid h2
  have HN := Lib.hid hn
  have HV := Lib.hid hv
  have HBX := Lib.hid hb
  have HS := Lib.hid hs
  clear h1 h2 hn hv hb hs
  go_enter Try.func48, Try.ntmps48
  go_wp2_with (go_at_call 57; refine H1.out.mono ?_; rintro e w1 ⟨rfl, hb1⟩)
  go_ret
  exact ⟨by rw [← H2.out]; rfl, hb1⟩

/-- the answer of Covered: is it covered, the steps, the error -/
def coverF (vars : List Int) (r : List Fact) (list : List (List Fact)) (steps : Int) : Bool × Int × Int :=
  if propF vars r && list.all (propF vars) then
    (if steps < (decF vars list (vars.length + 1) r steps).2 then (false, 0, 10) else ((decF vars list (vars.length + 1) r steps).1, (decF vars list (vars.length + 1) r steps).2, 0))
  else (false, 0, 2)

theorem prodL_le (r : List Fact) (l : List Int) : ∀ k, (∀ x ∈ l, 1 ≤ x) → prodL r k l ≤ prodL [] k l := by
  induction l with
  | nil => intro k _; simp [prodL]
  | cons x t ih =>
    intro k h
    have h1 := ih (k + 1) (fun y hy => h y (by simp [hy]))
    have hp := prodL_pos r t (k + 1) (fun y hy => h y (by simp [hy]))
    have hx := h x (by simp)
    rw [prodL, prodL]
    have e : valueF [] (k : Int) = -1 := rfl
    rw [e, if_neg (show ¬ (0 : Int) ≤ -1 by omega)]
    have h2 := Int.mul_le_mul_of_nonneg_left h1 (show 0 ≤ x by omega)
    have h3 := Int.mul_le_mul_of_nonneg_right hx (show 0 ≤ prodL r (k + 1) t by omega)
    split <;> omega
theorem cover_pre {vars : List Int} {r : List Fact} {list : List (List Fact)} (h1 : propF vars r = true) (h2 : list.all (propF vars) = true) (hlow : vars.length ≤ 100) (hprod : prodL [] 0 (ones vars) ≤ 1000000) : DecPre vars list (vars.length + 1) r :=
  ⟨h1, fun x hx => List.all_eq_true.1 h2 x hx, by omega, hlow, Int.le_trans (prodL_le r (ones vars) 0 (ones_pos vars)) hprod⟩
theorem restL_nil (L : List (List Fact)) : restL [] L = L := by
  unfold restL
  refine List.filter_eq_self.2 (fun x _ => ?_)
  have : clashF x [] = false := by
    rw [clashF, List.any_eq_false]
    intro f _
    simp [valueF]
  rw [this]; rfl
theorem cover_agree {vars : List Int} {r : List Fact} {list : List (List Fact)} {d : Nat} (steps : Int) (h : DecPre vars list d r) : Agree steps 0 (decF vars list d r steps) (pdecF vars steps d r list 0) := by
  have := dec_agree h.all steps d r [] 0 steps (by omega) h.prop (fun z hz => by cases hz) h.deep
  rwa [restL_nil] at this
theorem below_hush_new (w : World) (o : Obj) : Below w.heap.size w (hush w.heap.size (w.alloc o)) :=
  (belowA (Below.refl _ _) o).trans (below_of_grown (hush_grown w.heap.size (w.alloc o)) (by simp) (fun g hg => by injection hg with hg; omega))

set_option maxHeartbeats 2000000 in
set_option maxRecDepth 100000 in
theorem covered_calls (sv rv lv : Value) (vars : List Int) (r : List Fact) (list : List (List Fact)) (steps : Int) (w : World) (hs : IntsAt w sv vars) (hr : FactsAt w rv r) (hl : ListsAt w lv list) (hlow : vars.length ≤ 100) (hprod : prodL [] 0 (ones vars) ≤ 1000000) (hst : steps ≤ 9223372036854775807) :
    Calls Try.prog 28 #[sv, rv, lv, .int .i64 steps] w fun e w' => e = .returned (.tuple #[.bool (coverF vars r list steps).1, .int .i64 (coverF vars r list steps).2.1, errV (coverF vars r list steps).2.2]) ∧ Below w.heap.size w w' := by
  obtain ⟨A, n, c, rfl, hn, hm⟩ := hl.form
  obtain ⟨sA, sn, sc, rfl, hsn, hsm⟩ := hs.form
  obtain ⟨rA, rn, rc, rfl, hrn, hrm⟩ := hr.form
  have hB0 : Below w.heap.size w (w.alloc (.cells #[.slice sA sn sc] 39)) := belowA (Below.refl _ _) _
  have h1 := facts_calls _ _ vars r _ (hs.keep hB0) (hr.keep hB0)
  have q0 : (w.alloc (.cells #[.slice sA sn sc] 39)).cell? ⟨w.heap.size, 0, none⟩ = some (.slice sA sn sc) := by simp
  have h2 := fun (W : World) (hb : Below (w.alloc (.cells #[.slice sA sn sc] 39)).heap.size (w.alloc (.cells #[.slice sA sn sc] 39)) W) => containsFuncL_calls w.heap.size _ _ vars list W (kept hb q0) ((hs.keep hB0).keep hb) ((hl.keep hB0).keep hb)
  cases hp : propF vars r
  · have hfin : coverF vars r list steps = (false, 0, 2) := by simp [coverF, hp]
    rw [hfin]
    rw [hp] at h1
    have H1 := Lib.hid h1
    have H2 := Lib.hid h2
    have HS := Lib.hid hs
    have HR := Lib.hid hr
    have HL := Lib.hid hl
    have HN := Lib.hid hn
    have HSN := Lib.hid hsn
    have HRN := Lib.hid hrn
    have HP := Lib.hid hp
    have HFIN := Lib.hid hfin
    have HB0 := Lib.hid hB0
    clear h1 h2 hs hr hl hn hsn hrn hp hfin hB0
    clear hprod
    go_enter Try.func28, Try.ntmps28
    go_wp2_with (go_at_call 42; refine H1.out.mono ?_; rintro e w1 ⟨rfl, hb1⟩)
    go_ret3
    exact ⟨rfl, belowT HB0.out hb1⟩
  · rw [hp] at h1
    cases hall : list.all (propF vars)
    · have hfin : coverF vars r list steps = (false, 0, 2) := by simp [coverF, hp, hall]
      rw [hfin]
      rw [hall] at h2
      have H1 := Lib.hid h1
      have H2 := Lib.hid h2
      have HS := Lib.hid hs
      have HR := Lib.hid hr
      have HL := Lib.hid hl
      have HN := Lib.hid hn
      have HSN := Lib.hid hsn
      have HRN := Lib.hid hrn
      have HP := Lib.hid hp
      have HFIN := Lib.hid hfin
      have HALL := Lib.hid hall
      have HB0 := Lib.hid hB0
      clear h1 h2 hs hr hl hn hsn hrn hp hfin hall hB0
      clear hprod
      go_enter Try.func28, Try.ntmps28
      go_wp2_with (first
        | (go_at_call 42; refine H1.out.mono ?_; rintro e w1 ⟨rfl, hb1⟩; have q1 := kept hb1 q0)
        | (go_at_call 48; refine (H2.out _ hb1).mono ?_; rintro e w2 ⟨rfl, hb2⟩))
      go_ret3
      exact ⟨rfl, belowT HB0.out (belowT hb1 hb2)⟩
    · rw [hall] at h2
      have hpre := cover_pre hp hall hlow hprod
      have hag := cover_agree steps hpre
      have hcf : coverF vars r list steps = if steps < (decF vars list (vars.length + 1) r steps).2 then (false, 0, 10) else ((decF vars list (vars.length + 1) r steps).1, (decF vars list (vars.length + 1) r steps).2, 0) := by simp [coverF, hp, hall]
      have hd := fun (W : World) (hb : Below w.heap.size w W) => pdecide_calls vars steps W.heap.size (.slice sA sn sc) hst (vars.length + 1) (.slice rA rn rc) (.slice A n c) r list 0 (W.alloc (.cells (coverA (.slice sA sn sc) 0 steps false) 72)) ((hs.keep hb).keep (below_hush_new W _)) ((hr.keep hb).keep (below_hush_new W _)) ((hl.keep hb).keep (below_hush_new W _)) hpre (by omega) (heap_alloc_new _ _)
      generalize decF vars list (vars.length + 1) r steps = y at hag hcf
      obtain ⟨⟨zb, zu, zf⟩, hz⟩ : ∃ z, pdecF vars steps (vars.length + 1) r list 0 = z := ⟨_, rfl⟩
      rw [hz] at hag hd
      simp only at hd
      have hres : coverF vars r list steps = if zf then (false, 0, 10) else (zb, zu, 0) := by
        rw [hcf]
        by_cases hn : y.2 ≤ steps
        · have e := hag.1 hn
          injection e with e1 e2
          injection e2 with e2 e3
          subst e1 e2 e3
          rw [if_neg (by omega)]
          simp
        · have e := hag.2 (by omega)
          simp only at e
          rw [if_pos (by omega), e.2]
          rfl
      rw [hres]
      unfold coverA at hd
      clear hag hcf hpre hprod
      have H1 := Lib.hid h1
      have H2 := Lib.hid h2
      have HS := Lib.hid hs
      have HR := Lib.hid hr
      have HL := Lib.hid hl
      have HN := Lib.hid hn
      have HSN := Lib.hid hsn
      have HRN := Lib.hid hrn
      have HP := Lib.hid hp
      have HALL := Lib.hid hall
      have HB0 := Lib.hid hB0
      have HD := Lib.hid hd
      have HZ := Lib.hid hz
      have HRES := Lib.hid hres
      clear h1 h2 hs hr hl hn hsn hrn hp hall hB0 hd hz hres
      go_enter Try.func28, Try.ntmps28
      go_wp2_with (first
        | (go_at_call 42; refine H1.out.mono ?_; rintro e w1 ⟨rfl, hb1⟩; have q1 := kept hb1 q0)
        | (go_at_call 48; refine (H2.out _ hb1).mono ?_; rintro e w2 ⟨rfl, hb2⟩; have q2 := kept hb2 q1; have HB2 := Lib.hid (belowT HB0.out (belowT hb1 hb2))))
      refine (HD.out _ HB2.out).mono ?_
      rintro e w3 ⟨rfl, hc3, hg3⟩
      have k1 : w3.cell? ⟨w2.heap.size, 1, none⟩ = some (.int .i64 zu) := by simp [World.cell?, hc3]
      have k3 : w3.cell? ⟨w2.heap.size, 3, none⟩ = some (.bool zf) := by simp [World.cell?, hc3]
      have HG3 := Lib.hid hg3
      clear hc3 hg3
      cases zf
      · go_wp2_with fail
        refine wp_region_quiet_lit (by kernel_rfl) (by kernel_rfl) ?_
        repeat (any_goals (first | go_big_quiet_step (fail) | quiet_step (fail) | (refine wpQuiet_step (fun K hK => ?_); go_simp; split <;> (refine hK _ ?_; clear hK K))))
        all_goals (refine wpQuiet_nil ?_; intro _ hw'; obtain ⟨nq, hw''⟩ := hw'; subst hw'')
        go_wp2_with fail
        go_ret3
        exact ⟨rfl, below_drewN (n := nq) <| HB2.out.trans (((belowA (Below.refl _ _) _).trans (below_of_grown HG3.out (by simp) (fun g hg => by injection hg with hg; omega))).mono HB2.out.size)⟩
      · go_wp2_with fail
        go_ret3
        exact ⟨rfl, HB2.out.trans (((belowA (Below.refl _ _) _).trans (below_of_grown HG3.out (by simp) (fun g hg => by injection hg with hg; omega))).mono HB2.out.size)⟩

set_option maxHeartbeats 2000000 in
theorem rcovered_calls (sv rv lv : Value) (vars : List Int) (r : List Fact) (list : List (List Fact)) (steps : Int) (w : World) (hs : IntsAt w sv vars) (hr : FactsAt w rv r) (hl : ListsAt w lv list) (hlow : vars.length ≤ 100) (hprod : prodL [] 0 (ones vars) ≤ 1000000) (hst : steps ≤ 9223372036854775807) :
    Calls Try.prog 29 #[sv, rv, lv, .int .i64 steps] w fun e w' => e = .returned (.tuple #[.bool (coverF vars r list steps).1, .int .i64 (coverF vars r list steps).2.1, .int .i64 (coverF vars r list steps).2.2]) ∧ Below w.heap.size w w' := by
  obtain ⟨A, n, c, rfl, hn, hm⟩ := hl.form
  obtain ⟨sA, sn, sc, rfl, hsn, hsm⟩ := hs.form
  obtain ⟨rA, rn, rc, rfl, hrn, hrm⟩ := hr.form
  have h1 := bproper_calls _ _ vars r _ hs hr
  have hfin0 : (propF vars r && list.all (propF vars)) = false → coverF vars r list steps = (false, 0, 2) := fun h => by simp [coverF, h]
  have hfin1 : (propF vars r && list.all (propF vars)) = true → coverF vars r list steps = if steps < (decF vars list (vars.length + 1) r steps).2 then (false, 0, 10) else ((decF vars list (vars.length + 1) r steps).1, (decF vars list (vars.length + 1) r steps).2, 0) := fun h => by rw [coverF, if_pos h]
  have hd : (propF vars r && list.all (propF vars)) = true → ∀ W : World, Below w.heap.size w W → _ := fun h W hb => rdecide_calls vars list (vars.length + 1) (.slice sA sn sc) (.slice rA rn rc) (.slice A n c) r steps W (by omega) (hs.keep hb) (hr.keep hb) (hl.keep hb) (by simp only [Bool.and_eq_true] at h; exact cover_pre h.1 h.2 hlow hprod) hst
  obtain ⟨C, hC⟩ : ∃ C, coverF vars r list steps = C := ⟨_, rfl⟩
  rw [hC] at hfin0 hfin1 ⊢
  generalize hpr : propF vars r = pr at h1 hfin0 hfin1 hd
  clear hprod
  have H1 := Lib.hid h1
  have HS := Lib.hid hs
  have HR := Lib.hid hr
  have HL := Lib.hid hl
  have HN := Lib.hid hn
  have HSN := Lib.hid hsn
  have HRN := Lib.hid hrn
  have HPR := Lib.hid hpr
  have HFIN0 := Lib.hid hfin0
  have HFIN1 := Lib.hid hfin1
  have HD := Lib.hid hd
  have HC := Lib.hid hC
  clear h1 hs hr hl hn hsn hrn hpr hfin0 hfin1 hd hC
  go_enter Try.func29, Try.ntmps29
  go_wp2_with (go_at_call 45; refine H1.out.mono ?_; rintro e w1 ⟨rfl, hb1⟩)
  go_loopg [11, 22] n (fun g bv i wr => ∃ (k : Nat) (b : Bool), k ≤ n ∧ g = n - k ∧ i = .int .i64 k ∧ bv = .bool (!b) ∧ Below w.heap.size w wr ∧ (pr && list.all (propF vars)) = (b && (list.drop k).all (propF vars)))
  case atStart => exact ⟨0, pr, Nat.zero_le _, by omega, rfl, rfl, hb1, rfl⟩
  case round =>
    obtain ⟨k, b, hk, hg, rfl, rfl, hB, hF⟩ := hrel
    have HG := Lib.hid hg
    have HF := Lib.hid hF
    clear hg hF
    by_cases hlt : k < n
    · obtain ⟨bb, off, xA, xn, xc, x, rfl, c0, hxn, hxm, hxv, hx, hdr⟩ := (HL.out.keep hB).at hlt
      have hbr : bb < wr.heap.size := lt_of_cell c0
      have h2 := bproper_calls _ _ vars x _ (HS.out.keep hB) hxv
      have hst2 : (pr && list.all (propF vars)) = ((b && propF vars x) && (list.drop (k + 1)).all (propF vars)) := by rw [HF.out, hdr, List.all_cons, Bool.and_assoc]
      generalize propF vars x = t at h2 hst2
      cases b
      · rw [Bool.false_and] at hst2
        have HX := Lib.hid hx
        have HDR := Lib.hid hdr
        have HXV := Lib.hid hxv
        have HXN := Lib.hid hxn
        have H2 := Lib.hid h2
        have HST2 := Lib.hid hst2
        clear hx hdr hxv hxn h2 hst2
        go_wp2_with fail
        go_roundg (n - (k + 1))
        case measure => have := HG.out; omega
        case rel => exact ⟨k + 1, false, by omega, rfl, by go_num, rfl, hB, HST2.out⟩
      · rw [Bool.true_and] at hst2
        have HX := Lib.hid hx
        have HDR := Lib.hid hdr
        have HXV := Lib.hid hxv
        have HXN := Lib.hid hxn
        have H2 := Lib.hid h2
        have HST2 := Lib.hid hst2
        clear hx hdr hxv hxn h2 hst2
        go_wp2_with (go_at_call 45; refine H2.out.mono ?_; rintro e w2 ⟨rfl, hb2⟩)
        go_roundg (n - (k + 1))
        case measure => have := HG.out; omega
        case rel => exact ⟨k + 1, t, by omega, rfl, by go_num, by cases t <;> rfl, belowT hB hb2, HST2.out⟩
    · have hF' : (pr && list.all (propF vars)) = b := by rw [HF.out, List.drop_eq_nil_of_le (by have := HN.out; omega)]; simp
      cases b
      · have hfin := HFIN0.out hF'
        have HFIN := Lib.hid hfin
        have HF' := Lib.hid hF'
        clear hfin hF'
        go_wp2_with fail
        go_ret3
        exact ⟨by rw [HFIN.out]; rfl, hB⟩
      · have hfin := HFIN1.out hF'
        have hd := HD.out hF' wr hB
        obtain ⟨⟨ok, n1⟩, hY⟩ : ∃ Y, decF vars list (vars.length + 1) r steps = Y := ⟨_, rfl⟩
        rw [hY] at hfin hd
        simp only at hfin hd
        by_cases hov : steps < n1
        · rw [if_pos hov] at hfin
          have HFIN := Lib.hid hfin
          have HF' := Lib.hid hF'
          have HD2 := Lib.hid hd
          have HY := Lib.hid hY
          clear hfin hF' hd hY
          go_wp2_with (go_at_call 51; refine HD2.out.mono ?_; rintro e w2 ⟨rfl, hb2⟩)
          go_ret3
          exact ⟨by rw [HFIN.out]; rfl, belowT hB hb2⟩
        · rw [if_neg hov] at hfin
          have HFIN := Lib.hid hfin
          have HF' := Lib.hid hF'
          have HD2 := Lib.hid hd
          have HY := Lib.hid hY
          clear hfin hF' hd hY
          go_wp2_with (go_at_call 51; refine HD2.out.mono ?_; rintro e w2 ⟨rfl, hb2⟩)
          go_ret3
          exact ⟨by rw [HFIN.out]; rfl, belowT hB hb2⟩
end Go.Proofs.Ytpogmkplmcedlaa
