/- The walk of stratagemlaw30.CertificateFormats. -/
import Derived.Test.YticdfbhbbapbdaaDoorRFormat
import Derived.Test.YticdfbhbbapbdaaDoorRCheck
import Derived.Test.YticdfbhbbapbdaaDoorAwake30
namespace Go.Proofs.YticdfbhbbapbdaaDoor
open Go.RowKit

theorem largeL_eq (l : List Nogood) : ∀ (m : Int), 0 ≤ m → m + ((l.map (fun x => x.1.length)).sum : Nat) ≤ 4611686018427387904 → largeL m l = m + ((l.map (fun x => x.1.length)).sum : Nat) := by
  induction l with
  | nil => intro m _ _; simp [largeL]
  | cons x r ih =>
    intro m hm hs
    simp only [List.map_cons, List.sum_cons] at hs ⊢
    rw [largeL, IntWalk.wrap64_in _ ⟨by omega, by omega⟩, ih _ (by omega) (by omega)]
    omega
theorem sum_le (l : List Nogood) (h : ∀ x ∈ l, x.1.length ≤ 64) : (l.map (fun x => x.1.length)).sum ≤ 64 * l.length := by
  induction l with
  | nil => simp
  | cons x r ih =>
    have h1 := h x (by simp)
    have h2 := ih (fun y hy => h y (by simp [hy]))
    simp only [List.map_cons, List.sum_cons, List.length_cons]; omega
theorem small_of {b : Int} {l : List Nogood} (hc : checkF b l = 0) (hl : largeF l = false) : l.length + (l.map (fun x => x.1.length)).sum ≤ 400 := by
  obtain ⟨_, _, hn, hf, _⟩ := checkF_zero hc
  have hs := sum_le l (fun x hx => formedF_len (hf x hx))
  have he := largeL_eq l l.length (by omega) (by omega)
  rw [largeF, he] at hl
  simp at hl
  omega
theorem nogoodB_len (b : Int) (x : Nogood) (hb : -1 ≤ b) (h2 : b ≤ 1099511627776) (hf : formedF x.1 = true) (hd : badDist b x.2 = false) : (nogoodB x).length ≤ 30 + 44 * x.1.length := by
  obtain ⟨d0, d1⟩ := badDist_range hb h2 hd
  have h1 := lineB_len x.2 d0 d1
  have h3 := flatMap_len factB 44 x.1 (fun y hy => factB_len y (formedF_facts hf y hy))
  simp only [nogoodB, List.length_append, List.length_cons, List.length_nil]
  omega
theorem text_len (b : Int) (l : List Nogood) (hb : -1 ≤ b) (h2 : b ≤ 1099511627776) (hf : ∀ x ∈ l, formedF x.1 = true) (hd : ∀ x ∈ l, badDist b x.2 = false) : (l.flatMap nogoodB).length ≤ 30 * l.length + 44 * (l.map (fun x => x.1.length)).sum := by
  induction l with
  | nil => simp
  | cons x r ih =>
    have h1 := nogoodB_len b x hb h2 (hf x (by simp)) (hd x (by simp))
    have h3 := ih (fun y hy => hf y (by simp [hy])) (fun y hy => hd y (by simp [hy]))
    simp only [List.flatMap_cons, List.length_append, List.length_cons, List.map_cons, List.sum_cons]
    omega
theorem formatL_some (l : List Nogood) : ∀ acc : List UInt8, acc.length + (l.flatMap nogoodB).length ≤ 65536 → formatL acc l = some (acc ++ l.flatMap nogoodB) := by
  induction l with
  | nil => intro acc _; simp [formatL]
  | cons x r ih =>
    intro acc h
    simp only [List.flatMap_cons, List.length_append] at h
    rw [formatL, if_neg (by simp only [List.length_append]; omega), ih _ (by simp only [List.length_append]; omega)]
    simp
theorem formatF_ok {b : Int} {l : List Nogood} (hc : checkF b l = 0) (hl : largeF l = false) : formatF b l = (headB b ++ l.flatMap nogoodB, 0) := by
  have hs := small_of hc hl
  obtain ⟨h1, h2, _, hf, hd⟩ := checkF_zero hc
  have ht := text_len b l h1 h2 hf hd
  have hh := headB_len b h2
  rw [formatF, if_neg (by rw [hc]; simp), formatL_some l _ (by omega)]

set_option maxHeartbeats 1000000 in
theorem lawFormats_calls (bd : Int) (v : Value) (l : List Nogood) (w : World) (hv : NogoodsAt w v l) (htab : TabOk w) :
    Calls Tryd.prog 4 #[.agg #[.int .i64 bd, v]] w fun e w' => e = .returned (.bool true) ∧ Below w.heap.size w w' := by
  obtain ⟨A, n, c, rfl, hn, hm⟩ := hv.form
  have hb0 : Below w.heap.size w (w.alloc (.cells #[.int .i64 bd, .slice A n c] 25)) := belowA (Below.refl _ _) _
  have hlc := large_calls bd _ l _ (hv.keep hb0)
  have HV := Lib.hid hv
  have HN := Lib.hid hn
  have HTAB := Lib.hid htab
  have HB0 := Lib.hid hb0
  clear hv hn htab hb0
  cases hla : largeF l
  · rw [hla] at hlc
    have hq0 : (w.alloc (.cells #[.int .i64 bd, .slice A n c] 25)).cell? ⟨w.heap.size, 0, none⟩ = some (.int .i64 bd) := by simp
    have hq1 : (w.alloc (.cells #[.int .i64 bd, .slice A n c] 25)).cell? ⟨w.heap.size, 1, none⟩ = some (.slice A n c) := by simp
    have hfc := fun (W : World) (hb : Below w.heap.size w W) => format_calls bd _ l W (HV.out.keep hb) (HTAB.out.keep hb)
    have HQ0 := Lib.hid hq0
    have HQ1 := Lib.hid hq1
    have HLC := Lib.hid hlc
    clear hq0 hq1 hlc
    by_cases hc : checkF bd l = 0
    · have hf := formatF_ok hc hla
      have hrf := fun (W : World) (hb : Below w.heap.size w W) => rformat_calls bd _ l W (HV.out.keep hb) hc
      rw [hf] at hfc
      have hcz : (checkF bd l != 0) = false := by simpa using hc
      obtain ⟨T, hT⟩ : ∃ T : ByteArray, T = ⟨(headB bd ++ l.flatMap nogoodB).toArray⟩ := ⟨_, rfl⟩
      simp only [errV_zero] at hfc
      rw [← hT] at hrf hfc
      have HF := Lib.hid hf
      have HRF := Lib.hid hrf
      have HFC := Lib.hid hfc
      have HLA := Lib.hid hla
      have HC := Lib.hid hc
      have HT := Lib.hid hT
      clear hf hrf hfc hla hc hT
      go_enter Tryd.func4, Tryd.ntmps4
      go_wp2_with (first
        | (go_at_call 15; refine HLC.out.mono ?_; rintro e w1 ⟨rfl, hb1⟩; have HB1 := Lib.hid (belowT HB0.out hb1); have HC0 := Lib.hid (kept hb1 HQ0.out); have HC1 := Lib.hid (kept hb1 HQ1.out); clear hb1)
        | (go_at_call 11; refine (awake_calls _ (HTAB.out.keep HB1.out)).mono ?_; rintro e w2 ⟨rfl, hb2⟩; have HB2 := Lib.hid (belowT HB1.out hb2); have c0 := kept hb2 HC0.out; have c1 := kept hb2 HC1.out; clear hb2)
        | (go_at_call 16; refine (HFC.out _ HB2.out).mono ?_; rintro e w3 ⟨rfl, hb3⟩; have HB3 := Lib.hid (belowT HB2.out hb3); have d0 := kept hb3 c0; have d1 := kept hb3 c1; clear hb3 c0 c1)
        | (go_at_call 14; refine (rcheck_calls bd _ l _ (HV.out.keep HB3.out)).mono ?_; rintro e w4 ⟨rfl, hb4⟩; have HB4 := Lib.hid (belowT HB3.out hb4); have e0 := kept hb4 d0; have e1 := kept hb4 d1; clear hb4 d0 d1)
        | (go_at_call 17; refine (HRF.out _ HB4.out).mono ?_; rintro e w5 ⟨rfl, hb5⟩; have HB5 := Lib.hid (belowT HB4.out hb5); clear hb5))
      go_ret
      exact ⟨by simp, HB5.out⟩
    · have hf : formatF bd l = ([], checkF bd l) := by rw [formatF, if_pos hc]
      rw [hf] at hfc
      have hcz : (checkF bd l != 0) = true := by simpa using hc
      have hev := errV_ne hc
      have HF := Lib.hid hf
      have HFC := Lib.hid hfc
      have HLA := Lib.hid hla
      have HC := Lib.hid hc
      have HEV := Lib.hid hev
      clear hf hfc hla hc hev
      go_enter Tryd.func4, Tryd.ntmps4
      go_wp2_with (first
        | (go_at_call 15; refine HLC.out.mono ?_; rintro e w1 ⟨rfl, hb1⟩; have HB1 := Lib.hid (belowT HB0.out hb1); have HC0 := Lib.hid (kept hb1 HQ0.out); have HC1 := Lib.hid (kept hb1 HQ1.out); clear hb1)
        | (go_at_call 11; refine (awake_calls _ (HTAB.out.keep HB1.out)).mono ?_; rintro e w2 ⟨rfl, hb2⟩; have HB2 := Lib.hid (belowT HB1.out hb2); have c0 := kept hb2 HC0.out; have c1 := kept hb2 HC1.out; clear hb2)
        | (go_at_call 16; refine (HFC.out _ HB2.out).mono ?_; rintro e w3 ⟨rfl, hb3⟩; have HB3 := Lib.hid (belowT HB2.out hb3); have d0 := kept hb3 c0; have d1 := kept hb3 c1; clear hb3 c0 c1)
        | (go_at_call 14; refine (rcheck_calls bd _ l _ (HV.out.keep HB3.out)).mono ?_; rintro e w4 ⟨rfl, hb4⟩; have HB4 := Lib.hid (belowT HB3.out hb4); clear hb4)
        | (go_at_call 12; refine (num_calls _ _).mono ?_; rintro e wn ⟨rfl, rfl⟩))
      go_ret
      exact ⟨by simp, HB4.out⟩
  · rw [hla] at hlc
    have HLA := Lib.hid hla
    have HLC := Lib.hid hlc
    clear hla hlc
    go_enter Tryd.func4, Tryd.ntmps4
    go_wp2_with (first
      | (go_at_call 15; refine HLC.out.mono ?_; rintro e w1 ⟨rfl, hb1⟩; have HB1 := Lib.hid (belowT HB0.out hb1); clear hb1)
      | (go_at_call 11; refine (awake_calls _ (HTAB.out.keep HB1.out)).mono ?_; rintro e w2 ⟨rfl, hb2⟩))
    go_ret
    exact ⟨rfl, belowT HB1.out hb2⟩
end Go.Proofs.YticdfbhbbapbdaaDoor
