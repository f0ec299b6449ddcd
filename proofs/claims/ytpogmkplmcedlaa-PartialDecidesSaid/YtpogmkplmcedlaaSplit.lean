/- partial.Split, stratagemref06.Split. -/
import Derived.Test.YtpogmkplmcedlaaPWith
import Derived.Test.YtpogmkplmcedlaaLists
import Derived.Test.YtpogmkplmcedlaaProper
import Derived.Test.YtpogmkplmcedlaaErr
import Derived.Test.YtpogmkplmcedlaaRMake
namespace Go.Proofs.Ytpogmkplmcedlaa
open Go.RowKit

def splitsOf (W : List Fact → Fact → List Fact) (p : List Fact) (v : Int) (n : Nat) : List (List Fact) := (List.range n).map fun (x : Nat) => W p (v, (x : Int))
def splitF (W : List Fact → Fact → List Fact) (vars : List Int) (p : List Fact) (v : Int) : List (List Fact) × Int :=
  if propF vars p then (if 0 ≤ v ∧ v < vars.length then (if 0 ≤ valueF p v then ([], 4) else (splitsOf W p v (vars.getD v.toNat 0).toNat, 0)) else ([], 1)) else ([], 2)
theorem splitsOf_succ (W : List Fact → Fact → List Fact) (p : List Fact) (v : Int) (n : Nat) : splitsOf W p v (n + 1) = splitsOf W p v n ++ [W p (v, (n : Int))] := by simp [splitsOf, List.range_succ]
theorem splitsOf_len (W : List Fact → Fact → List Fact) (p : List Fact) (v : Int) (n : Nat) : (splitsOf W p v n).length = n := by simp [splitsOf]
theorem errV2 : errV 2 = .iface 57 (.int .i64 2) := rfl
theorem errV1 : errV 1 = .iface 57 (.int .i64 1) := rfl
theorem errV4 : errV 4 = .iface 57 (.int .i64 4) := rfl

set_option maxHeartbeats 4000000 in
theorem split_calls (sv pv : Value) (vars : List Int) (p : List Fact) (v : Int) (w : World) (hs : IntsAt w sv vars) (hp : FactsAt w pv p) (hroom : p.length ≤ 1000) (hN : ∀ k ∈ vars, k ≤ 1000000) :
    Calls Try.prog 22 #[sv, pv, .int .i64 v] w fun e w' => ∃ v', e = .returned (.tuple #[v', errV (splitF pwithF vars p v).2]) ∧ OwnL w' w.heap.size v' (splitF pwithF vars p v).1 ∧ Below w.heap.size w w' := by
  obtain ⟨A, n, c, rfl, hn, hm⟩ := hp.form
  obtain ⟨sA, sn, sc, rfl, hsn, hsm⟩ := hs.form
  have h1 := facts_calls _ _ vars p w hs hp
  have h2 := fun (W : World) (hb : Below w.heap.size w W) => find_calls _ p v W (hp.keep hb)
  cases hpr : propF vars p
  · have hfin : splitF pwithF vars p v = ([], 2) := by simp [splitF, hpr]
    rw [hfin]
    rw [hpr] at h1
    have H1 := Lib.hid h1
    have H2 := Lib.hid h2
    have HPR := Lib.hid hpr
    have HS := Lib.hid hs
    have HP := Lib.hid hp
    have HN := Lib.hid hn
    have HSN := Lib.hid hsn
    have HFIN := Lib.hid hfin
    have HNN := Lib.hid hN
    clear h1 h2 hpr hs hp hn hsn hfin hN
    go_enter Try.func22, Try.ntmps22
    go_wp2_with (go_at_call 42; refine H1.out.mono ?_; rintro e w1 ⟨rfl, hb1⟩)
    go_ret2
    exact ⟨_, rfl, OwnL.nil_ _ _, hb1⟩
  · rw [hpr] at h1
    by_cases hr : 0 ≤ v ∧ v < sn
    · obtain ⟨hr0, hr1⟩ := hr
      by_cases hf : 0 ≤ valueF p v
      · have hfin : splitF pwithF vars p v = ([], 4) := by simp [splitF, hpr, hf, hr0, ← hsn, hr1]
        rw [hfin]
        generalize valueF p v = fv at h2 hf
        have H1 := Lib.hid h1
        have H2 := Lib.hid h2
        have HPR := Lib.hid hpr
        have HS := Lib.hid hs
        have HP := Lib.hid hp
        have HN := Lib.hid hn
        have HSN := Lib.hid hsn
        have HFIN := Lib.hid hfin
        have HNN := Lib.hid hN
        clear h1 h2 hpr hs hp hn hsn hfin hN
        go_enter Try.func22, Try.ntmps22
        go_wp2_with (first
          | (go_at_call 42; refine H1.out.mono ?_; rintro e w1 ⟨rfl, hb1⟩)
          | (go_at_call 43; refine (H2.out _ hb1).mono ?_; rintro e w2 ⟨rfl, hb2⟩))
        go_ret2
        exact ⟨_, rfl, OwnL.nil_ _ _, belowT hb1 hb2⟩
      · obtain ⟨bb, off, z, rfl, cz, hz⟩ := hs.num hr0 hr1
        have hfin : splitF pwithF vars p v = (splitsOf pwithF p v z.toNat, 0) := by simp [splitF, hpr, hf, hr0, ← hsn, hr1, ← hz]
        rw [hfin]
        have hz6 : z ≤ 1000000 := by
          rw [← hz, List.getD_eq_getElem?_getD]
          cases hq : vars[v.toNat]? with
          | none => simp
          | some k => exact hN k (List.mem_of_getElem? hq)
        have h3 := fun (W : World) (k : Nat) (hb : Below w.heap.size w W) => pwith_calls _ p v (k : Int) W (hp.keep hb) (by omega)
        generalize valueF p v = fv at h2 hf
        have hbw : bb < w.heap.size := lt_of_cell cz
        have hcz := fun (W : World) (hb : Below w.heap.size w W) => kept hb cz
        have H1 := Lib.hid h1
        have H2 := Lib.hid h2
        have H3 := Lib.hid h3
        have HPR := Lib.hid hpr
        have HS := Lib.hid hs
        have HP := Lib.hid hp
        have HN := Lib.hid hn
        have HSN := Lib.hid hsn
        have HFIN := Lib.hid hfin
        have HZ := Lib.hid hz
        have HNN := Lib.hid hN
        have HCZ := Lib.hid hcz
        clear h1 h2 h3 hpr hs hp hn hsn hfin hz hN hcz

        go_enter Try.func22, Try.ntmps22
        go_wp2_with (first
          | (go_at_call 42; refine H1.out.mono ?_; rintro e w1 ⟨rfl, hb1⟩)
          | (go_at_call 43; refine (H2.out _ hb1).mono ?_; rintro e w2 ⟨rfl, hb2⟩; have cz2 := HCZ.out _ (belowT hb1 hb2)))
        go_loopg [8, 36] z.toNat (fun g o i wr => ∃ k : Nat, k ≤ z.toNat ∧ g = z.toNat - k ∧ i = .int .i64 k ∧ Below w.heap.size w wr ∧ OwnL wr w.heap.size o (splitsOf pwithF p v k))
        case atStart => exact ⟨0, Nat.zero_le _, by omega, rfl, belowT hb1 hb2, OwnL.nil_ _ _⟩
        case round =>
          obtain ⟨k, hk, hg, rfl, hB, hown⟩ := hrel
          have HG := Lib.hid hg
          have HOWN := Lib.hid hown
          clear hg hown
          by_cases hlt : k < z.toNat
          · have hlt' : (k : Int) < z := by omega
            go_wp2_with fail
            refine (H3.out _ k hB).mono ?_
            rintro e w3 ⟨v3, rfl, hown3, hb3⟩
            obtain ⟨A3, c3, rfl⟩ := hown3.form
            have hB3 := belowT hB hb3
            have hent : EntryAt w3 w.heap.size (.slice A3 (pwithF p (v, (k : Int))).length c3) (pwithF p (v, (k : Int))) := .inr ⟨own_mono hown3 hB.size, by rw [pwithF_len]; omega⟩
            have hown4 := HOWN.out.keep hb3 hB.size
            have hsl := splitsOf_len pwithF p v k
            have hsu := splitsOf_succ pwithF p v k
            generalize (pwithF p (v, (k : Int))).length = xl at hent hown3 ⊢
            have HOWN3 := Lib.hid hown3
            have HENT := Lib.hid hent
            have HOWN4 := Lib.hid hown4
            have HSL := Lib.hid hsl
            have HSU := Lib.hid hsu
            clear hown3 hent hown4 hsl hsu
            go_wp2_with (at_builtin; refine wpList_append_list rfl (.tmp 39) (.tmp 45) rfl w3 w.heap.size _ (splitsOf pwithF p v k) A3 xl c3 _ rfl HOWN4.out HENT.out rfl (by rw [HSL.out]; omega) hB3.size ?_; intro v5 w5 hown5 hg5 hge5)
            go_roundg (z.toNat - (k + 1))
            case measure => have := HG.out; omega
            case rel => exact ⟨k + 1, by omega, rfl, by go_num, (belowA hB3 _).grown hg5 (by have := hB3.size; simp; omega) hge5, by rw [HSU.out]; exact hown5⟩
          · have hge' : ¬ ((k : Int) < z) := by omega
            have hke : k = z.toNat := by omega
            have HKE := Lib.hid hke
            clear hke
            go_wp2
            go_ret2
            exact ⟨_, rfl, by rw [← HKE.out]; exact HOWN.out, hB⟩
    · have hfin : splitF pwithF vars p v = ([], 1) := by
        rw [splitF, hpr, if_pos rfl, if_neg (by omega)]
      rw [hfin]
      by_cases hr0 : v < 0
      · have H1 := Lib.hid h1
        have H2 := Lib.hid h2
        have HPR := Lib.hid hpr
        have HS := Lib.hid hs
        have HP := Lib.hid hp
        have HN := Lib.hid hn
        have HSN := Lib.hid hsn
        have HFIN := Lib.hid hfin
        have HNN := Lib.hid hN
        clear h1 h2 hpr hs hp hn hsn hfin hN
        clear hr
        go_enter Try.func22, Try.ntmps22
        go_wp2_with (go_at_call 42; refine H1.out.mono ?_; rintro e w1 ⟨rfl, hb1⟩)
        go_ret2
        exact ⟨_, rfl, OwnL.nil_ _ _, hb1⟩
      · have hr1 : (sn : Int) ≤ v := by omega
        have H1 := Lib.hid h1
        have H2 := Lib.hid h2
        have HPR := Lib.hid hpr
        have HS := Lib.hid hs
        have HP := Lib.hid hp
        have HN := Lib.hid hn
        have HSN := Lib.hid hsn
        have HFIN := Lib.hid hfin
        have HNN := Lib.hid hN
        clear h1 h2 hpr hs hp hn hsn hfin hN
        clear hr
        go_enter Try.func22, Try.ntmps22
        go_wp2_with (go_at_call 42; refine H1.out.mono ?_; rintro e w1 ⟨rfl, hb1⟩)
        go_ret2
        exact ⟨_, rfl, OwnL.nil_ _ _, hb1⟩
set_option maxHeartbeats 4000000 in
theorem rsplit_calls (sv pv : Value) (vars : List Int) (p : List Fact) (v : Int) (w : World) (hs : IntsAt w sv vars) (hp : FactsAt w pv p) (hroom : p.length ≤ 1000) (hN : ∀ k ∈ vars, k ≤ 1000000) :
    Calls Try.prog 23 #[sv, pv, .int .i64 v] w fun e w' => ∃ v', e = .returned (.tuple #[v', Value.int .i64 (splitF withF vars p v).2]) ∧ OwnL w' w.heap.size v' (splitF withF vars p v).1 ∧ Below w.heap.size w w' := by
  obtain ⟨A, n, c, rfl, hn, hm⟩ := hp.form
  obtain ⟨sA, sn, sc, rfl, hsn, hsm⟩ := hs.form
  have h1 := bproper_calls _ _ vars p w hs hp
  have h2 := fun (W : World) (hb : Below w.heap.size w W) => value_calls _ p v W (hp.keep hb)
  cases hpr : propF vars p
  · have hfin : splitF withF vars p v = ([], 2) := by simp [splitF, hpr]
    rw [hfin]
    rw [hpr] at h1
    have H1 := Lib.hid h1
    have H2 := Lib.hid h2
    have HPR := Lib.hid hpr
    have HS := Lib.hid hs
    have HP := Lib.hid hp
    have HN := Lib.hid hn
    have HSN := Lib.hid hsn
    have HFIN := Lib.hid hfin
    have HNN := Lib.hid hN
    clear h1 h2 hpr hs hp hn hsn hfin hN
    go_enter Try.func23, Try.ntmps23
    go_wp2_with (go_at_call 45; refine H1.out.mono ?_; rintro e w1 ⟨rfl, hb1⟩)
    go_ret2
    exact ⟨_, rfl, OwnL.nil_ _ _, hb1⟩
  · rw [hpr] at h1
    by_cases hr : 0 ≤ v ∧ v < sn
    · obtain ⟨hr0, hr1⟩ := hr
      by_cases hf : 0 ≤ valueF p v
      · have hfin : splitF withF vars p v = ([], 4) := by simp [splitF, hpr, hf, hr0, ← hsn, hr1]
        rw [hfin]
        generalize valueF p v = fv at h2 hf
        have H1 := Lib.hid h1
        have H2 := Lib.hid h2
        have HPR := Lib.hid hpr
        have HS := Lib.hid hs
        have HP := Lib.hid hp
        have HN := Lib.hid hn
        have HSN := Lib.hid hsn
        have HFIN := Lib.hid hfin
        have HNN := Lib.hid hN
        clear h1 h2 hpr hs hp hn hsn hfin hN
        go_enter Try.func23, Try.ntmps23
        go_wp2_with (first
          | (go_at_call 45; refine H1.out.mono ?_; rintro e w1 ⟨rfl, hb1⟩)
          | (go_at_call 37; refine (H2.out _ hb1).mono ?_; rintro e w2 ⟨rfl, hb2⟩))
        go_ret2
        exact ⟨_, rfl, OwnL.nil_ _ _, belowT hb1 hb2⟩
      · obtain ⟨bb, off, z, rfl, cz, hz⟩ := hs.num hr0 hr1
        have hfin : splitF withF vars p v = (splitsOf withF p v z.toNat, 0) := by simp [splitF, hpr, hf, hr0, ← hsn, hr1, ← hz]
        rw [hfin]
        have hz6 : z ≤ 1000000 := by
          rw [← hz, List.getD_eq_getElem?_getD]
          cases hq : vars[v.toNat]? with
          | none => simp
          | some k => exact hN k (List.mem_of_getElem? hq)
        have h3 := fun (W : World) (k : Nat) (hb : Below w.heap.size w W) => with_calls _ p v (k : Int) W (hp.keep hb) (by omega)
        generalize valueF p v = fv at h2 hf
        have hbw : bb < w.heap.size := lt_of_cell cz
        have hcz := fun (W : World) (hb : Below w.heap.size w W) => kept hb cz
        have H1 := Lib.hid h1
        have H2 := Lib.hid h2
        have H3 := Lib.hid h3
        have HPR := Lib.hid hpr
        have HS := Lib.hid hs
        have HP := Lib.hid hp
        have HN := Lib.hid hn
        have HSN := Lib.hid hsn
        have HFIN := Lib.hid hfin
        have HZ := Lib.hid hz
        have HNN := Lib.hid hN
        have HCZ := Lib.hid hcz
        clear h1 h2 h3 hpr hs hp hn hsn hfin hz hN hcz
        rcases Int.lt_or_le z 0 with hzz | hzz
        · go_enter Try.func23, Try.ntmps23
          go_wp2_with (first
            | (go_at_call 45; refine H1.out.mono ?_; rintro e w1 ⟨rfl, hb1⟩)
            | (go_at_call 37; refine (H2.out _ hb1).mono ?_; rintro e w2 ⟨rfl, hb2⟩; have cz2 := HCZ.out _ (belowT hb1 hb2)))
          go_loopg [8, 31] 0 (fun g o i wr => g = 0 ∧ o = .slice none 0 0 ∧ i = .int .i64 0 ∧ wr = w2)
          case atStart => exact ⟨rfl, rfl, rfl, rfl⟩
          case round =>
            obtain ⟨hg, rfl, rfl, rfl⟩ := hrel
            clear hg
            go_wp2
            go_ret2
            exact ⟨_, rfl, by rw [show z.toNat = 0 by omega]; exact OwnL.nil_ _ _, belowT hb1 hb2⟩
        go_enter Try.func23, Try.ntmps23
        go_wp2_with (first
          | (go_at_call 45; refine H1.out.mono ?_; rintro e w1 ⟨rfl, hb1⟩)
          | (go_at_call 37; refine (H2.out _ hb1).mono ?_; rintro e w2 ⟨rfl, hb2⟩; have cz2 := HCZ.out _ (belowT hb1 hb2)))
        go_loopg [8, 31] z.toNat (fun g o i wr => ∃ k : Nat, k ≤ z.toNat ∧ g = z.toNat - k ∧ i = .int .i64 k ∧ Below w.heap.size w wr ∧ OwnL wr w.heap.size o (splitsOf withF p v k))
        case atStart => exact ⟨0, Nat.zero_le _, by omega, rfl, belowT hb1 hb2, OwnL.nil_ _ _⟩
        case round =>
          obtain ⟨k, hk, hg, rfl, hB, hown⟩ := hrel
          have HG := Lib.hid hg
          have HOWN := Lib.hid hown
          clear hg hown
          by_cases hlt : k < z.toNat
          · have hlt' : (k : Int) < z := by omega
            go_wp2_with fail
            refine (H3.out _ k hB).mono ?_
            rintro e w3 ⟨v3, rfl, hown3, hb3⟩
            obtain ⟨A3, c3, rfl⟩ := hown3.form
            have hB3 := belowT hB hb3
            have hent : EntryAt w3 w.heap.size (.slice A3 (withF p (v, (k : Int))).length c3) (withF p (v, (k : Int))) := .inr ⟨own_mono hown3 hB.size, by rw [withF_len]; omega⟩
            have hown4 := HOWN.out.keep hb3 hB.size
            have hsl := splitsOf_len withF p v k
            have hsu := splitsOf_succ withF p v k
            generalize (withF p (v, (k : Int))).length = xl at hent hown3 ⊢
            have HOWN3 := Lib.hid hown3
            have HENT := Lib.hid hent
            have HOWN4 := Lib.hid hown4
            have HSL := Lib.hid hsl
            have HSU := Lib.hid hsu
            clear hown3 hent hown4 hsl hsu
            go_wp2_with (at_builtin; refine wpList_append_list rfl (.tmp 34) (.tmp 40) rfl w3 w.heap.size _ (splitsOf withF p v k) A3 xl c3 _ rfl HOWN4.out HENT.out rfl (by rw [HSL.out]; omega) hB3.size ?_; intro v5 w5 hown5 hg5 hge5)
            go_roundg (z.toNat - (k + 1))
            case measure => have := HG.out; omega
            case rel => exact ⟨k + 1, by omega, rfl, by go_num, (belowA hB3 _).grown hg5 (by have := hB3.size; simp; omega) hge5, by rw [HSU.out]; exact hown5⟩
          · have hge' : ¬ ((k : Int) < z) := by omega
            have hke : k = z.toNat := by omega
            have HKE := Lib.hid hke
            clear hke
            go_wp2
            go_ret2
            exact ⟨_, rfl, by rw [← HKE.out]; exact HOWN.out, hB⟩
    · have hfin : splitF withF vars p v = ([], 1) := by
        rw [splitF, hpr, if_pos rfl, if_neg (by omega)]
      rw [hfin]
      by_cases hr0 : v < 0
      · have H1 := Lib.hid h1
        have H2 := Lib.hid h2
        have HPR := Lib.hid hpr
        have HS := Lib.hid hs
        have HP := Lib.hid hp
        have HN := Lib.hid hn
        have HSN := Lib.hid hsn
        have HFIN := Lib.hid hfin
        have HNN := Lib.hid hN
        clear h1 h2 hpr hs hp hn hsn hfin hN
        clear hr
        go_enter Try.func23, Try.ntmps23
        go_wp2_with (go_at_call 45; refine H1.out.mono ?_; rintro e w1 ⟨rfl, hb1⟩)
        go_ret2
        exact ⟨_, rfl, OwnL.nil_ _ _, hb1⟩
      · have hr1 : (sn : Int) ≤ v := by omega
        have H1 := Lib.hid h1
        have H2 := Lib.hid h2
        have HPR := Lib.hid hpr
        have HS := Lib.hid hs
        have HP := Lib.hid hp
        have HN := Lib.hid hn
        have HSN := Lib.hid hsn
        have HFIN := Lib.hid hfin
        have HNN := Lib.hid hN
        clear h1 h2 hpr hs hp hn hsn hfin hN
        clear hr
        go_enter Try.func23, Try.ntmps23
        go_wp2_with (go_at_call 45; refine H1.out.mono ?_; rintro e w1 ⟨rfl, hb1⟩)
        go_ret2
        exact ⟨_, rfl, OwnL.nil_ _ _, hb1⟩
end Go.Proofs.Ytpogmkplmcedlaa
