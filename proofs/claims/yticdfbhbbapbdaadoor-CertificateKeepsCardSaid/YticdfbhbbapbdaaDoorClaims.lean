/- certificate.Claims, stratagemref30.Claims; certificate.Proper, stratagemref30.Proper. -/
import Derived.Test.YticdfbhbbapbdaaDoorRCheck
import Derived.Test.YticdfbhbbapbdaaDoorHolds
import Derived.Test.YticdfbhbbapbdaaDoorProper
namespace Go.Proofs.YticdfbhbbapbdaaDoor
open Go.RowKit

def claimsF (b : Int) (l : List Nogood) (s : List Int) (d : Int) : Bool := if checkF b l = 0 then l.any (fun x => decide (x.2 ≤ d) && holdsF x.1 s) else false
def properC (vars : List Int) (b : Int) (l : List Nogood) : Int := if checkF b l = 0 then (if l.all (fun x => propF vars x.1) then 0 else 2) else checkF b l

set_option maxHeartbeats 1000000 in
theorem claims_calls (bd : Int) (v sv : Value) (l : List Nogood) (s : List Int) (d : Int) (w : World) (hv : NogoodsAt w v l) (hs : IntsAt w sv s) :
    Calls Tryd.prog 18 #[.agg #[.int .i64 bd, v], sv, .int .i64 d] w fun e w' => e = .returned (.bool (claimsF bd l s d)) ∧ Below w.heap.size w w' := by
  obtain ⟨A, n, c, rfl, hn, hm⟩ := hv.form
  obtain ⟨sA, sn, sc, rfl, hsn, hsm⟩ := hs.form
  have HV := Lib.hid hv
  have HN := Lib.hid hn
  have HS := Lib.hid hs
  have HSN := Lib.hid hsn
  clear hv hn hs hsn
  by_cases hc : checkF bd l = 0
  · have HE := Lib.hid (show errV (checkF bd l) = .nilIface by rw [hc]; rfl)
    have hfin : claimsF bd l s d = l.any (fun x => decide (x.2 ≤ d) && holdsF x.1 s) := by rw [claimsF, if_pos hc]
    have HC := Lib.hid hc
    have HFIN := Lib.hid hfin
    clear hc hfin
    go_enter Tryd.func18, Tryd.ntmps18
    go_wp2_with (go_at_call 13; refine (check_calls bd _ l _ (HV.out.keep (belowA (Below.refl _ _) _))).mono ?_; rw [HE.out]; rintro e w1 ⟨rfl, hbw1⟩; have q1 : w1.cell? ⟨w.heap.size, 1, none⟩ = some (.slice A n c) := kept hbw1 (by simp [World.cell?_alloc_new]))
    have hB1 : Below w.heap.size w w1 := belowT (belowA (Below.refl _ _) _) hbw1
    clear hbw1 q1
    go_loopg [15] n (fun g i wr => ∃ k : Nat, k ≤ n ∧ g = n - k ∧ i = .int .i64 k ∧ Below w.heap.size w wr ∧ l.any (fun x => decide (x.2 ≤ d) && holdsF x.1 s) = (l.drop k).any (fun x => decide (x.2 ≤ d) && holdsF x.1 s))
    case atStart => exact ⟨0, Nat.zero_le _, by omega, rfl, hB1, rfl⟩
    case round =>
      clear hB1
      obtain ⟨k, hk, hg, rfl, hB, hF⟩ := hrel
      have HG := Lib.hid hg
      have HF := Lib.hid hF
      clear hg hF
      by_cases hlt : k < n
      · obtain ⟨b, off, fA, fn, fc, fs, dd, rfl, c0, hfn, hfm, hfs, c1, hx, hd⟩ := (HV.out.keep hB).at hlt
        have hbr : b < wr.heap.size := lt_of_cell c0
        have hsk := (HS.out.keep hB).keep (belowA (Below.refl _ _) (.cells #[.slice fA fn fc, .int .i64 dd] 45))
        have HX := Lib.hid hx
        have HD := Lib.hid hd
        have HFS := Lib.hid hfs
        have HFN := Lib.hid hfn
        have HSK := Lib.hid hsk
        clear hx hd hfs hfn hsk
        by_cases hle : dd ≤ d
        · cases hh : holdsF fs s
          · have HH := Lib.hid hh
            clear hh
            go_wp2_with (go_at_call 38; refine (holds_calls _ _ fs s _ (HFS.out.keep (belowA (Below.refl _ _) _)) HSK.out).mono ?_; rw [HH.out]; rintro e w2 ⟨rfl, hb2⟩)
            go_roundg (n - (k + 1))
            case measure => have := HG.out; omega
            case rel => exact ⟨k + 1, by omega, rfl, by go_num, belowT (belowA hB _) hb2, by rw [HF.out, HD.out]; simp [HH.out]⟩
          · have HH := Lib.hid hh
            clear hh
            go_wp2_with (go_at_call 38; refine (holds_calls _ _ fs s _ (HFS.out.keep (belowA (Below.refl _ _) _)) HSK.out).mono ?_; rw [HH.out]; rintro e w2 ⟨rfl, hb2⟩)
            go_ret
            exact ⟨by rw [HFIN.out, HF.out, HD.out]; simp [HH.out, hle], belowT (belowA hB _) hb2⟩
        · have hle' : decide (dd ≤ d) = false := by simpa using hle
          go_wp2_with fail
          go_roundg (n - (k + 1))
          case measure => have := HG.out; omega
          case rel => exact ⟨k + 1, by omega, rfl, by go_num, belowA hB _, by rw [HF.out, HD.out]; simp only [List.any_cons, hle', Bool.false_and, Bool.false_or]⟩
      · go_wp2
        go_ret
        exact ⟨by rw [HFIN.out, HF.out, List.drop_eq_nil_of_le (by have := HN.out; omega)]; rfl, hB⟩
  · have HE := Lib.hid (errV_ne hc)
    have hfin : claimsF bd l s d = false := by rw [claimsF, if_neg hc]
    have HC := Lib.hid hc
    have HFIN := Lib.hid hfin
    clear hc hfin
    go_enter Tryd.func18, Tryd.ntmps18
    go_wp2_with (go_at_call 13; refine (check_calls bd _ l _ (HV.out.keep (belowA (Below.refl _ _) _))).mono ?_; rw [HE.out]; rintro e w1 ⟨rfl, hbw1⟩)
    go_ret
    exact ⟨by rw [HFIN.out]; rfl, belowT (belowA (Below.refl _ _) _) hbw1⟩
set_option maxHeartbeats 1000000 in
theorem rclaims_calls (bd : Int) (v sv : Value) (l : List Nogood) (s : List Int) (d : Int) (w : World) (hv : NogoodsAt w v l) (hs : IntsAt w sv s) :
    Calls Tryd.prog 19 #[.agg #[.int .i64 bd, v], sv, .int .i64 d] w fun e w' => e = .returned (.bool (claimsF bd l s d)) ∧ Below w.heap.size w w' := by
  obtain ⟨A, n, c, rfl, hn, hm⟩ := hv.form
  obtain ⟨sA, sn, sc, rfl, hsn, hsm⟩ := hs.form
  have HV := Lib.hid hv
  have HN := Lib.hid hn
  have HS := Lib.hid hs
  have HSN := Lib.hid hsn
  clear hv hn hs hsn
  by_cases hc : checkF bd l = 0
  · have hcz : (checkF bd l != 0) = false := by simpa using hc
    have hfin : claimsF bd l s d = l.any (fun x => decide (x.2 ≤ d) && holdsF x.1 s) := by rw [claimsF, if_pos hc]
    have HC := Lib.hid hc
    have HFIN := Lib.hid hfin
    clear hc hfin
    go_enter Tryd.func19, Tryd.ntmps19
    go_wp2_with (go_at_call 14; refine (rcheck_calls bd _ l _ (HV.out.keep (belowA (Below.refl _ _) _))).mono ?_; skip; rintro e w1 ⟨rfl, hbw1⟩; have q1 : w1.cell? ⟨w.heap.size, 1, none⟩ = some (.slice A n c) := kept hbw1 (by simp [World.cell?_alloc_new]))
    have hB1 : Below w.heap.size w w1 := belowT (belowA (Below.refl _ _) _) hbw1
    clear hbw1 q1
    go_loopg [15] n (fun g i wr => ∃ k : Nat, k ≤ n ∧ g = n - k ∧ i = .int .i64 k ∧ Below w.heap.size w wr ∧ l.any (fun x => decide (x.2 ≤ d) && holdsF x.1 s) = (l.drop k).any (fun x => decide (x.2 ≤ d) && holdsF x.1 s))
    case atStart => exact ⟨0, Nat.zero_le _, by omega, rfl, hB1, rfl⟩
    case round =>
      clear hB1
      obtain ⟨k, hk, hg, rfl, hB, hF⟩ := hrel
      have HG := Lib.hid hg
      have HF := Lib.hid hF
      clear hg hF
      by_cases hlt : k < n
      · obtain ⟨b, off, fA, fn, fc, fs, dd, rfl, c0, hfn, hfm, hfs, c1, hx, hd⟩ := (HV.out.keep hB).at hlt
        have hbr : b < wr.heap.size := lt_of_cell c0
        have hsk := (HS.out.keep hB).keep (belowA (Below.refl _ _) (.cells #[.slice fA fn fc, .int .i64 dd] 45))
        have HX := Lib.hid hx
        have HD := Lib.hid hd
        have HFS := Lib.hid hfs
        have HFN := Lib.hid hfn
        have HSK := Lib.hid hsk
        clear hx hd hfs hfn hsk
        by_cases hle : dd ≤ d
        · cases hh : holdsF fs s
          · have HH := Lib.hid hh
            clear hh
            go_wp2_with (go_at_call 39; refine (bholds_calls _ _ fs s _ (HFS.out.keep (belowA (Below.refl _ _) _)) HSK.out).mono ?_; rw [HH.out]; rintro e w2 ⟨rfl, hb2⟩)
            go_roundg (n - (k + 1))
            case measure => have := HG.out; omega
            case rel => exact ⟨k + 1, by omega, rfl, by go_num, belowT (belowA hB _) hb2, by rw [HF.out, HD.out]; simp [HH.out]⟩
          · have HH := Lib.hid hh
            clear hh
            go_wp2_with (go_at_call 39; refine (bholds_calls _ _ fs s _ (HFS.out.keep (belowA (Below.refl _ _) _)) HSK.out).mono ?_; rw [HH.out]; rintro e w2 ⟨rfl, hb2⟩)
            go_ret
            exact ⟨by rw [HFIN.out, HF.out, HD.out]; simp [HH.out, hle], belowT (belowA hB _) hb2⟩
        · have hle' : decide (dd ≤ d) = false := by simpa using hle
          go_wp2_with fail
          go_roundg (n - (k + 1))
          case measure => have := HG.out; omega
          case rel => exact ⟨k + 1, by omega, rfl, by go_num, belowA hB _, by rw [HF.out, HD.out]; simp only [List.any_cons, hle', Bool.false_and, Bool.false_or]⟩
      · go_wp2
        go_ret
        exact ⟨by rw [HFIN.out, HF.out, List.drop_eq_nil_of_le (by have := HN.out; omega)]; rfl, hB⟩
  · have hcz : (checkF bd l != 0) = true := by simpa using hc
    have hfin : claimsF bd l s d = false := by rw [claimsF, if_neg hc]
    have HC := Lib.hid hc
    have HFIN := Lib.hid hfin
    clear hc hfin
    go_enter Tryd.func19, Tryd.ntmps19
    go_wp2_with (go_at_call 14; refine (rcheck_calls bd _ l _ (HV.out.keep (belowA (Below.refl _ _) _))).mono ?_; skip; rintro e w1 ⟨rfl, hbw1⟩)
    go_ret
    exact ⟨by rw [HFIN.out]; rfl, belowT (belowA (Below.refl _ _) _) hbw1⟩

set_option maxHeartbeats 1000000 in
theorem proper_calls (bd : Int) (v sv : Value) (l : List Nogood) (s : List Int) (w : World) (hv : NogoodsAt w v l) (hs : IntsAt w sv s) :
    Calls Tryd.prog 20 #[sv, .agg #[.int .i64 bd, v]] w fun e w' => e = .returned (errV (properC s bd l)) ∧ Below w.heap.size w w' := by
  obtain ⟨A, n, c, rfl, hn, hm⟩ := hv.form
  obtain ⟨sA, sn, sc, rfl, hsn, hsm⟩ := hs.form
  have HV := Lib.hid hv
  have HN := Lib.hid hn
  have HS := Lib.hid hs
  have HSN := Lib.hid hsn
  clear hv hn hs hsn
  by_cases hc : checkF bd l = 0
  · have HE := Lib.hid (show errV (checkF bd l) = .nilIface by rw [hc]; rfl)
    have hfin : properC s bd l = if l.all (fun x => propF s x.1) then 0 else 2 := by rw [properC, if_pos hc]
    have HC := Lib.hid hc
    have HFIN := Lib.hid hfin
    clear hc hfin
    go_enter Tryd.func20, Tryd.ntmps20
    go_wp2_with (go_at_call 13; refine (check_calls bd _ l _ (HV.out.keep (belowA (Below.refl _ _) _))).mono ?_; rw [HE.out]; rintro e w1 ⟨rfl, hbw1⟩; have q1 : w1.cell? ⟨w.heap.size, 1, none⟩ = some (.slice A n c) := kept hbw1 (by simp [World.cell?_alloc_new]))
    have hB1 : Below w.heap.size w w1 := belowT (belowA (Below.refl _ _) _) hbw1
    clear hbw1 q1
    go_loopg [16] n (fun g i wr => ∃ k : Nat, k ≤ n ∧ g = n - k ∧ i = .int .i64 k ∧ Below w.heap.size w wr ∧ l.all (fun x => propF s x.1) = (l.drop k).all (fun x => propF s x.1))
    case atStart => exact ⟨0, Nat.zero_le _, by omega, rfl, hB1, rfl⟩
    case round =>
      clear hB1
      obtain ⟨k, hk, hg, rfl, hB, hF⟩ := hrel
      have HG := Lib.hid hg
      have HF := Lib.hid hF
      clear hg hF
      by_cases hlt : k < n
      · obtain ⟨b, off, fA, fn, fc, fs, dd, rfl, c0, hfn, hfm, hfs, c1, hx, hd⟩ := (HV.out.keep hB).at hlt
        have hbr : b < wr.heap.size := lt_of_cell c0
        have hsk := (HS.out.keep hB).keep (belowA (Below.refl _ _) (.cells #[.slice fA fn fc, .int .i64 dd] 45))
        have HX := Lib.hid hx
        have HD := Lib.hid hd
        have HFS := Lib.hid hfs
        have HFN := Lib.hid hfn
        have HSK := Lib.hid hsk
        clear hx hd hfs hfn hsk
        cases hh : propF s fs
        · have HH := Lib.hid hh
          clear hh
          go_wp2_with (go_at_call 40; refine (facts_calls _ _ s fs _ HSK.out (HFS.out.keep (belowA (Below.refl _ _) _))).mono ?_; rw [HH.out]; rintro e w2 ⟨rfl, hb2⟩)
          go_ret
          exact ⟨by rw [HFIN.out, HF.out, HD.out]; simp [HH.out] <;> rfl, belowT (belowA hB _) hb2⟩
        · have HH := Lib.hid hh
          clear hh
          go_wp2_with (go_at_call 40; refine (facts_calls _ _ s fs _ HSK.out (HFS.out.keep (belowA (Below.refl _ _) _))).mono ?_; rw [HH.out]; rintro e w2 ⟨rfl, hb2⟩)
          go_roundg (n - (k + 1))
          case measure => have := HG.out; omega
          case rel => exact ⟨k + 1, by omega, rfl, by go_num, belowT (belowA hB _) hb2, by rw [HF.out, HD.out]; simp [HH.out]⟩
      · go_wp2
        go_ret
        exact ⟨by rw [HFIN.out, HF.out, List.drop_eq_nil_of_le (by have := HN.out; omega)]; rfl, hB⟩
  · have HE := Lib.hid (errV_ne hc)
    have hfin : properC s bd l = checkF bd l := by rw [properC, if_neg hc]
    have HC := Lib.hid hc
    have HFIN := Lib.hid hfin
    clear hc hfin
    go_enter Tryd.func20, Tryd.ntmps20
    go_wp2_with (go_at_call 13; refine (check_calls bd _ l _ (HV.out.keep (belowA (Below.refl _ _) _))).mono ?_; rw [HE.out]; rintro e w1 ⟨rfl, hbw1⟩)
    go_ret
    exact ⟨by rw [HFIN.out] <;> (try rw [HE.out]) <;> rfl, belowT (belowA (Below.refl _ _) _) hbw1⟩
set_option maxHeartbeats 1000000 in
theorem rproper_calls (bd : Int) (v sv : Value) (l : List Nogood) (s : List Int) (w : World) (hv : NogoodsAt w v l) (hs : IntsAt w sv s) :
    Calls Tryd.prog 21 #[sv, .agg #[.int .i64 bd, v]] w fun e w' => e = .returned (.int .i64 (properC s bd l)) ∧ Below w.heap.size w w' := by
  obtain ⟨A, n, c, rfl, hn, hm⟩ := hv.form
  obtain ⟨sA, sn, sc, rfl, hsn, hsm⟩ := hs.form
  have HV := Lib.hid hv
  have HN := Lib.hid hn
  have HS := Lib.hid hs
  have HSN := Lib.hid hsn
  clear hv hn hs hsn
  by_cases hc : checkF bd l = 0
  · have hcz : (checkF bd l != 0) = false := by simpa using hc
    have hfin : properC s bd l = if l.all (fun x => propF s x.1) then 0 else 2 := by rw [properC, if_pos hc]
    have HC := Lib.hid hc
    have HFIN := Lib.hid hfin
    clear hc hfin
    go_enter Tryd.func21, Tryd.ntmps21
    go_wp2_with (go_at_call 14; refine (rcheck_calls bd _ l _ (HV.out.keep (belowA (Below.refl _ _) _))).mono ?_; skip; rintro e w1 ⟨rfl, hbw1⟩; have q1 : w1.cell? ⟨w.heap.size, 1, none⟩ = some (.slice A n c) := kept hbw1 (by simp [World.cell?_alloc_new]))
    have hB1 : Below w.heap.size w w1 := belowT (belowA (Below.refl _ _) _) hbw1
    clear hbw1 q1
    go_loopg [16] n (fun g i wr => ∃ k : Nat, k ≤ n ∧ g = n - k ∧ i = .int .i64 k ∧ Below w.heap.size w wr ∧ l.all (fun x => propF s x.1) = (l.drop k).all (fun x => propF s x.1))
    case atStart => exact ⟨0, Nat.zero_le _, by omega, rfl, hB1, rfl⟩
    case round =>
      clear hB1
      obtain ⟨k, hk, hg, rfl, hB, hF⟩ := hrel
      have HG := Lib.hid hg
      have HF := Lib.hid hF
      clear hg hF
      by_cases hlt : k < n
      · obtain ⟨b, off, fA, fn, fc, fs, dd, rfl, c0, hfn, hfm, hfs, c1, hx, hd⟩ := (HV.out.keep hB).at hlt
        have hbr : b < wr.heap.size := lt_of_cell c0
        have hsk := (HS.out.keep hB).keep (belowA (Below.refl _ _) (.cells #[.slice fA fn fc, .int .i64 dd] 45))
        have HX := Lib.hid hx
        have HD := Lib.hid hd
        have HFS := Lib.hid hfs
        have HFN := Lib.hid hfn
        have HSK := Lib.hid hsk
        clear hx hd hfs hfn hsk
        cases hh : propF s fs
        · have HH := Lib.hid hh
          clear hh
          go_wp2_with (go_at_call 41; refine (bproper_calls _ _ s fs _ HSK.out (HFS.out.keep (belowA (Below.refl _ _) _))).mono ?_; rw [HH.out]; rintro e w2 ⟨rfl, hb2⟩)
          go_ret
          exact ⟨by rw [HFIN.out, HF.out, HD.out]; simp [HH.out] <;> rfl, belowT (belowA hB _) hb2⟩
        · have HH := Lib.hid hh
          clear hh
          go_wp2_with (go_at_call 41; refine (bproper_calls _ _ s fs _ HSK.out (HFS.out.keep (belowA (Below.refl _ _) _))).mono ?_; rw [HH.out]; rintro e w2 ⟨rfl, hb2⟩)
          go_roundg (n - (k + 1))
          case measure => have := HG.out; omega
          case rel => exact ⟨k + 1, by omega, rfl, by go_num, belowT (belowA hB _) hb2, by rw [HF.out, HD.out]; simp [HH.out]⟩
      · go_wp2
        go_ret
        exact ⟨by rw [HFIN.out, HF.out, List.drop_eq_nil_of_le (by have := HN.out; omega)]; rfl, hB⟩
  · have hcz : (checkF bd l != 0) = true := by simpa using hc
    have hfin : properC s bd l = checkF bd l := by rw [properC, if_neg hc]
    have HC := Lib.hid hc
    have HFIN := Lib.hid hfin
    clear hc hfin
    go_enter Tryd.func21, Tryd.ntmps21
    go_wp2_with (go_at_call 14; refine (rcheck_calls bd _ l _ (HV.out.keep (belowA (Below.refl _ _) _))).mono ?_; skip; rintro e w1 ⟨rfl, hbw1⟩)
    go_ret
    exact ⟨by rw [HFIN.out] <;> (try rw [HE.out]) <;> rfl, belowT (belowA (Below.refl _ _) _) hbw1⟩
end Go.Proofs.YticdfbhbbapbdaaDoor
