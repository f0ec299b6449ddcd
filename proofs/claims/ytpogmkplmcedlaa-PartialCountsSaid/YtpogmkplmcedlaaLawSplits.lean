/- The walk of stratagemlaw06.PartialSplits. -/
import Derived.Test.YtpogmkplmcedlaaPlainS
import Derived.Test.YtpogmkplmcedlaaMinimal
import Derived.Test.YtpogmkplmcedlaaLawMakes
namespace Go.Proofs.Ytpogmkplmcedlaa
open Go.RowKit

theorem all_of_idx {vars : List Int} {n : Nat} {B : Int} (hn : n = vars.length) (h : ∀ (i : Nat) (x : Int), i < n → vars[i]? = some x → x ≤ B) : ∀ x ∈ vars, x ≤ B := by
  intro x hx
  obtain ⟨i, hi, rfl⟩ := List.mem_iff_getElem.1 hx
  exact h i _ (by omega) (List.getElem?_eq_getElem hi)
theorem splitF_len (W : List Fact → Fact → List Fact) (vars : List Int) (p : List Fact) (v : Int) (h : ∀ k ∈ vars, k ≤ 1000) : (splitF W vars p v).1.length ≤ 1000 := by
  unfold splitF
  split
  · split
    · split
      · simp
      · simp only [splitsOf_len]
        rw [List.getD_eq_getElem?_getD]
        cases hq : vars[v.toNat]? with
        | none => simp
        | some k => have := h k (List.mem_of_getElem? hq); simp; omega
    · simp
  · simp

set_option maxHeartbeats 2000000 in
set_option maxRecDepth 100000 in
theorem lawSplits_calls (sv pv : Value) (vars : List Int) (p : List Fact) (v : Int) (w : World) (hs : IntsAt w sv vars) (hp : FactsAt w pv p) :
    Calls Try.prog 6 #[sv, pv, .int .i64 v] w fun e w' => e = .returned (.bool true) ∧ Below w.heap.size w w' := by
  obtain ⟨A, n, c, rfl, hn, hm⟩ := hs.form
  obtain ⟨pA, pn, pc, rfl, hpn, hpm⟩ := hp.form
  by_cases h100 : (100 : Int) < (n : Int) + pn
  · have HS := Lib.hid hs
    have HP := Lib.hid hp
    have HN := Lib.hid hn
    have HPN := Lib.hid hpn
    clear hs hp hn hpn
    go_enter Try.func6, Try.ntmps6
    go_wp2_with (go_at_call 9; refine (awake_calls _).mono ?_; rintro e w1 ⟨rfl, hb1⟩)
    go_ret
    exact ⟨rfl, hb1⟩
  · have HS := Lib.hid hs
    have HP := Lib.hid hp
    have HN := Lib.hid hn
    have HPN := Lib.hid hpn
    clear hs hp hn hpn
    go_enter Try.func6, Try.ntmps6
    go_wp2_with (go_at_call 9; refine (awake_calls _).mono ?_; rintro e w1 ⟨rfl, hb1⟩)
    go_loopg [26] n (fun g i wr => ∃ k : Nat, k ≤ n ∧ g = n - k ∧ i = .int .i64 k ∧ Below w.heap.size w wr ∧ ∀ (i : Nat) (x : Int), i < k → vars[i]? = some x → x ≤ 1000)
    case atStart => exact ⟨0, Nat.zero_le _, by omega, rfl, hb1, fun i x hi => by omega⟩
    case round =>
      obtain ⟨k, hk, hg, rfl, hB, hF⟩ := hrel
      have HG := Lib.hid hg
      have HF := Lib.hid hF
      clear hg hF
      by_cases hlt : k < n
      · obtain ⟨b, off, x, rfl, c0, hx, hd⟩ := (HS.out.keep hB).at hlt
        by_cases hx1 : 1000 < x
        · have HX := Lib.hid hx
          have HD := Lib.hid hd
          clear hx hd
          go_wp2
          go_ret
          exact ⟨rfl, hB⟩
        · have hnext : ∀ (i : Nat) (y : Int), i < k + 1 → vars[i]? = some y → y ≤ 1000 := by
            intro i y hi hy
            by_cases hik : i < k
            · exact HF.out i y hik hy
            · obtain rfl : i = k := by omega
              rw [hx] at hy
              injection hy with hy
              omega
          have HX := Lib.hid hx
          have HD := Lib.hid hd
          have HNEXT := Lib.hid hnext
          clear hx hd hnext
          go_wp2
          go_roundg (n - (k + 1))
          case measure => have := HG.out; omega
          case rel => exact ⟨k + 1, by omega, rfl, by go_num, hB, HNEXT.out⟩
      · have hall : ∀ x ∈ vars, x ≤ 1000 := all_of_idx HN.out (fun i x hi => HF.out i x (by omega))
        have hpl : p.length ≤ 1000 := by have := HPN.out; omega
        have h1 := fun (W : World) (hb : Below w.heap.size w W) => split_calls _ _ vars p v W (HS.out.keep hb) (HP.out.keep hb) hpl (fun k hk => by have := hall k hk; omega)
        have h2 := fun (W : World) (hb : Below w.heap.size w W) => rsplit_calls _ _ vars p v W (HS.out.keep hb) (HP.out.keep hb) hpl (fun k hk => by have := hall k hk; omega)
        have h3 := fun (W : World) (hb : Below w.heap.size w W) => count_calls _ _ vars p W (HS.out.keep hb) (HP.out.keep hb)
        have h4 := fun (W : World) (hb : Below w.heap.size w W) => rcount_calls _ _ vars p W (HS.out.keep hb) (HP.out.keep hb)
        have hlen := splitF_len withF vars p v hall
        rw [split_eq] at h1
        rw [count_eq] at h3
        generalize rcountF vars p = cn at h3 h4
        obtain ⟨⟨ml, mc⟩, hmm⟩ : ∃ q, splitF withF vars p v = q := ⟨_, rfl⟩
        rw [hmm] at h1 h2 hlen
        simp only at h1 h2 hlen
        have hself := listsF_self ml
        have hml : ml.length * 24 ≤ 140737488355328 := by omega
        have HALL := Lib.hid hall
        have HPL := Lib.hid hpl
        have H1 := Lib.hid h1
        have H2 := Lib.hid h2
        have H3 := Lib.hid h3
        have H4 := Lib.hid h4
        have HLEN := Lib.hid hlen
        have HMM := Lib.hid hmm
        have HSELF := Lib.hid hself
        have HML := Lib.hid hml
        have HB := Lib.hid hB
        clear hall hpl h1 h2 h3 h4 hlen hmm hself hml hB
        go_wp2_with (first
          | (go_at_call 22; refine (H1.out _ HB.out).mono ?_; rintro e w3 ⟨v3, rfl, hown3, hb3⟩; have HB3 := Lib.hid (belowT HB.out hb3); have HF3 := Lib.hid (OwnL.lists hown3 HML.out); clear hown3 hb3)
          | (go_at_call 23; refine (H2.out _ HB3.out).mono ?_; rintro e w4 ⟨v4, rfl, hown4, hb4⟩; have HB4 := Lib.hid (belowT HB3.out hb4); have HF4 := Lib.hid (OwnL.lists hown4 HML.out); have HF34 := Lib.hid (HF3.out.keep hb4); clear hown4 hb4)
          | (go_at_call 12; refine (num_calls _ _).mono ?_; rintro e wn ⟨rfl, rfl⟩)
          | (go_at_call 19; refine (lists_calls _ _ ml ml _ HF34.out HF4.out).mono ?_; rw [HSELF.out]; rintro e w5 ⟨rfl, hb5⟩; have HB5 := Lib.hid (belowT HB4.out hb5); clear hb5)
          | (go_at_call 24; refine (H3.out _ HB5.out).mono ?_; rintro e w6 ⟨rfl, hb6⟩; have HB6 := Lib.hid (belowT HB5.out hb6); clear hb6)
          | (go_at_call 25; refine (H4.out _ HB6.out).mono ?_; rintro e w7 ⟨rfl, hb7⟩; have HB7 := Lib.hid (belowT HB6.out hb7); clear hb7))
        go_ret
        exact ⟨by simp, HB7.out⟩
end Go.Proofs.Ytpogmkplmcedlaa
