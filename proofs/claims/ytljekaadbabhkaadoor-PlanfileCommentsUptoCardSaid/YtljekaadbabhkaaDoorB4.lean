/- stratagemlaw13.PlanfileComments returns true for every input of bulk at most 1048576. No condition beyond the card's own. -/
import Derived.Test.YtljekaadbabhkaaDoorB3
import Derived.Test.YtljekaadbabhkaaDoorB1
import Derived.Deep.Slices
import Derived.Deep.Fields
import Derived.ChangeSame
import Derived.SizedLaws
import Derived.Lib.SmallJoins
import Derived.Test.YtljekaadbabhkaaDoorRows
import Derived.Below
import Derived.OpenShut
import Derived.Carry
/- Plain: the changed text as the law makes it; PlanfileComments is true. -/
namespace Go.Proofs.YtljekaadbabhkaaDoor.Am
open Go.RowKit

theorem line_len2 (timed : Bool) (x : GStep) (hr : rngF timed x = true) : (lineL timed x).length ≤ 13 + lenS x := by
  obtain ⟨r0, r1, _⟩ := rng_of hr
  obtain ⟨_, _, _, h2⟩ := itoa_at r0 r1
  have h3 : lenS x = x.Name.size + x.Args.length + lenW x.Args := rfl
  have h4 := argsL_len x.Args
  have h5 := bl_len x.Name
  unfold lineL
  cases timed <;> simp <;> omega
theorem text_len2 (timed : Bool) : ∀ (l : List GStep), (∀ x ∈ l, goodF x = true ∧ rngF timed x = true) → (textL timed l).length ≤ 13 * l.length + (l.map lenS).sum
  | [], _ => by simp [textL]
  | x :: r, h => by
    have h1 := text_len2 timed r (fun y hy => h y (by simp [hy]))
    have h3 := line_len2 timed x (h x (by simp)).2
    rw [textL_cons, List.length_append, List.map_cons, List.sum_cons, List.length_cons]
    omega
theorem app_bl (v : List UInt8) (y : ByteArray) : ofB v ++ y = ofB (v ++ bl y) := by rw [← ofB_app, ofB_bl]
theorem ixn_pick {β : Type} {l : List ByteArray} {J : Nat} (h : J < l.length) (k : ByteArray → Option β) : ∃ y ∈ l, ixn l J k = k y := ⟨l[J], List.getElem_mem h, ixn_at (List.getElem?_eq_getElem h)⟩
theorem what_at (a2 : List Int) (hq : a2.length ≤ 100 ∧ ∀ z ∈ a2, 0 ≤ z ∧ z ≤ 255) (n : Nat) : ∃ q : Nat, q ≤ 255 ∧ (sel (decide (((a2.map c_u8).length : Int) > 0))
        (ix a2 ((n : Int).tmod ((a2.map c_u8).length : Int)) (fun y103 =>
          grd (((a2.map c_u8).length : Int) ≠ 0) (some y103)))
        (some 0) : Option (Int)) = some (q : Int) := by
  rw [sel_dec, List.length_map]
  by_cases h : a2.length = 0
  · rw [if_neg (by omega)]
    exact ⟨0, by omega, rfl⟩
  · have e : (n : Int).tmod (a2.length : Int) = ((n % a2.length : Nat) : Int) := by rw [Int.tmod_eq_emod_of_nonneg (by omega)]; omega
    have hl : n % a2.length < a2.length := Nat.mod_lt _ (by omega)
    obtain ⟨z, hz, _⟩ := drop_at hl
    have h1 := hq.2 z (List.mem_of_getElem? hz)
    rw [if_pos (by omega), e, ix_at hz, grd_t (by omega)]
    exact ⟨z.toNat, by omega, by congr 1; omega⟩
theorem tmod_nat (q m : Nat) : (q : Int).tmod (m : Int) = ((q % m : Nat) : Int) := by rw [Int.tmod_eq_emod_of_nonneg (by omega)]; omega
theorem cz_ne {c : UInt8} {m : Nat} (hm : m < 256) (h : ¬ c = UInt8.ofNat m) : (cz c == (m : Int)) = false := by
  rw [cz_eq c m hm, beq_eq_false_iff_ne]
  exact h
theorem com_step (a2 : List Int) (hq : a2.length ≤ 100 ∧ ∀ z ∈ a2, 0 ≤ z ∧ z ≤ 255) (z : ByteArray) (hz : z.size ≤ 100000) (k n : Nat) (v : List UInt8) (c : UInt8) (hc : (bl z)[n]? = some c) (hv : v.length ≤ 10000000) :
    ∃ p, (c = 10 → p = [10]) ∧ (c ≠ 10 → Piece c p) ∧ p.length ≤ 2 ∧ M_l13_PlanfileComments_L1 a2 z (k + 1) (ofB v) false (n : Int) = M_l13_PlanfileComments_L1 a2 z k (ofB (v ++ p)) (decide (c = 10)) ((n + 1 : Nat) : Int) := by
  obtain ⟨q, q1, q2⟩ := what_at a2 hq n
  have hn : n < z.size := by rw [← bl_len]; exact (List.getElem?_eq_some_iff.1 hc).1
  have hb := byt_at hc
  rw [M_l13_PlanfileComments_L1, sel_dec, if_pos (by omega), q2, ob1_some, sel_ff, ob1_some]
  simp only
  rw [grd_t (by omega), grd_t (by omega), hb]
  have pick : ∀ (L : List ByteArray) (m : Nat), L.length = m → 0 < m → m ≤ 255 → (∀ y ∈ L, Piece c (bl y) ∧ y.size ≤ 2) → c ≠ 10 → ∃ p, (c = 10 → p = [10]) ∧ (c ≠ 10 → Piece c p) ∧ p.length ≤ 2 ∧
      ixn L ((((q : Int).tmod (m : Int))).toNat) (fun y109 => grd ((m : Int) ≠ 0) (grd (0 ≤ ((q : Int).tmod (m : Int))) (grd (((q : Int).tmod (m : Int)) < ((m : Nat) : Int)) (grd ((ofB v).size + y109.size ≤ 9223372036854775807) (M_l13_PlanfileComments_L1 a2 z k (ofB v ++ y109) false (IntKind.i64.wrap ((n : Int) + 1))))))) = M_l13_PlanfileComments_L1 a2 z k (ofB (v ++ p)) (decide (c = 10)) ((n + 1 : Nat) : Int) := by
    intro L m hL hm hm2 hP hc10
    have hmod : q % m < m := Nat.mod_lt _ hm
    rw [tmod_nat, Int.toNat_natCast]
    obtain ⟨y, hy, e⟩ := ixn_pick (l := L) (J := q % m) (by omega) (fun y109 => grd ((m : Int) ≠ 0) (grd (0 ≤ ((q % m : Nat) : Int)) (grd (((q % m : Nat) : Int) < ((m : Nat) : Int)) (grd ((ofB v).size + y109.size ≤ 9223372036854775807) (M_l13_PlanfileComments_L1 a2 z k (ofB v ++ y109) false (IntKind.i64.wrap ((n : Int) + 1)))))))
    obtain ⟨p1, p2⟩ := hP y hy
    refine ⟨bl y, fun e => absurd e hc10, fun _ => p1, by rw [bl_len]; exact p2, ?_⟩
    rw [e, grd_t (by omega), grd_t (by omega), grd_t (by omega), ofB_size, grd_t (by omega), app_bl, w64s (by omega), decide_eq_false hc10]
  by_cases c32 : c = 32
  · subst c32
    rw [show (cz 32 == 32) = true from rfl, sel_tt]
    exact pick _ 4 rfl (by decide) (by decide) (by
      intro y hy
      simp only [List.mem_cons, List.not_mem_nil, or_false] at hy
      rcases hy with rfl | rfl | rfl | rfl
      · exact ⟨.inl rfl, by decide⟩
      · exact ⟨.inl rfl, by decide⟩
      · exact ⟨.inr (.inl rfl), by decide⟩
      · exact ⟨.inr (.inr rfl), by decide⟩) (by decide)
  · rw [show (cz c == 32) = false from cz_ne (m := 32) (by decide) c32, sel_ff]
    by_cases c40 : c = 40
    · subst c40
      rw [show (cz 40 == 40) = true from rfl, sel_tt]
      exact pick _ 3 rfl (by decide) (by decide) (by
        intro y hy
        simp only [List.mem_cons, List.not_mem_nil, or_false] at hy
        unfold Piece
        rw [if_neg (by decide), if_pos rfl]
        rcases hy with rfl | rfl | rfl
        · exact ⟨.inl rfl, by decide⟩
        · exact ⟨.inr (.inl rfl), by decide⟩
        · exact ⟨.inr (.inr rfl), by decide⟩) (by decide)
    · rw [show (cz c == 40) = false from cz_ne (m := 40) (by decide) c40, sel_ff]
      by_cases c41 : c = 41
      · subst c41
        rw [show (cz 41 == 41) = true from rfl, sel_tt]
        exact pick _ 4 rfl (by decide) (by decide) (by
          intro y hy
          simp only [List.mem_cons, List.not_mem_nil, or_false] at hy
          unfold Piece
          rw [if_neg (by decide), if_neg (by decide), if_pos rfl]
          rcases hy with rfl | rfl | rfl | rfl
          · exact ⟨.inl rfl, by decide⟩
          · exact ⟨.inr (.inl rfl), by decide⟩
          · exact ⟨.inr (.inr (.inl rfl)), by decide⟩
          · exact ⟨.inr (.inr (.inr rfl)), by decide⟩) (by decide)
      · rw [show (cz c == 41) = false from cz_ne (m := 41) (by decide) c41, sel_ff]
        have hv112 : (sel (decide (cz c ≥ 97)) (sel (decide (cz c ≤ 122)) (grd (2 ≠ 0) (some (((q : Int).tmod 2) == 1))) (some false)) (some false) : Option Bool) = some (decide (97 ≤ c.toNat ∧ c.toNat ≤ 122 ∧ q % 2 = 1)) := by
          have e2 : ((q : Int).tmod 2) = ((q % 2 : Nat) : Int) := tmod_nat q 2
          rw [sel_dec, sel_dec, grd_t (by decide), e2, beq_int]
          unfold cz
          by_cases h1 : 97 ≤ c.toNat
          · rw [if_pos (by omega)]
            by_cases h2 : c.toNat ≤ 122
            · rw [if_pos (by omega)]
              congr 1
              simp only [h1, h2, true_and, decide_eq_decide]
              omega
            · rw [if_neg (by omega), decide_eq_false (fun h => h2 h.2.1)]
          · rw [if_neg (by omega), decide_eq_false (fun h => h1 h.1)]
        rw [hv112, ob1_some, sel_dec]
        by_cases hl : 97 ≤ c.toNat ∧ c.toNat ≤ 122 ∧ q % 2 = 1
        · have hc10 : c ≠ 10 := ne_nat (n := 10) (by omega) (by omega)
          have e : strOfNums [IntKind.u8.wrap (cz c - 32)] = ofB [UInt8.ofNat (c.toNat - 32)] := by
            have e1 : IntKind.u8.wrap (cz c - 32) = ((c.toNat - 32 : Nat) : Int) := by unfold cz; rw [IntKind.wrap_u8]; omega
            rw [e1]
            show (⟨([((c.toNat - 32 : Nat) : Int)].map fun n => UInt8.ofNat n.toNat).toArray⟩ : ByteArray) = _
            rw [List.map_cons, List.map_nil, Int.toNat_natCast]
            rfl
          rw [if_pos hl, e, ofB_size, ofB_size, grd_t (by simp; omega), ofB_app, w64s (by omega), decide_eq_false hc10]
          refine ⟨_, fun e => absurd e hc10, fun _ => ?_, by simp, rfl⟩
          unfold Piece
          rw [if_neg c32, if_neg c40, if_neg c41]
          exact .inr ⟨hl.1, hl.2.1, rfl⟩
        · have e : strOfNums [cz c] = ofB [c] := by
            show (⟨([cz c].map fun n => UInt8.ofNat n.toNat).toArray⟩ : ByteArray) = _
            rw [List.map_cons, List.map_nil]
            unfold cz
            rw [Int.toNat_natCast]
            simp
            rfl
          have e10 : (cz c == 10) = decide (c = 10) := by
            rw [show (10 : Int) = ((10 : Nat) : Int) from rfl, cz_eq c 10 (by decide)]
            by_cases h : c = 10
            · subst h; rfl
            · rw [decide_eq_false h, beq_eq_false_iff_ne]
              exact h
          rw [if_neg hl, e, ofB_size, ofB_size, grd_t (by simp; omega), ofB_app, w64s (by omega), e10]
          refine ⟨_, fun e => by rw [e], fun _ => ?_, by simp, rfl⟩
          unfold Piece
          rw [if_neg c32, if_neg c40, if_neg c41]
          exact .inl rfl
theorem com_begin (a2 : List Int) (hq : a2.length ≤ 100 ∧ ∀ z ∈ a2, 0 ≤ z ∧ z ≤ 255) (z : ByteArray) (hz : z.size ≤ 100000) (k n : Nat) (v : List UInt8) (hn : n < z.size) (hv : v.length ≤ 10000000) :
    ∃ b, Begin b ∧ M_l13_PlanfileComments_L1 a2 z (k + 1) (ofB v) true (n : Int) = M_l13_PlanfileComments_L1 a2 z (k + 1) (ofB (v ++ b)) false (n : Int) := by
  obtain ⟨q, q1, q2⟩ := what_at a2 hq n
  have hmod : q % 7 < 7 := Nat.mod_lt _ (by decide)
  have e7 : ((q : Int).tmod 7) = ((q % 7 : Nat) : Int) := tmod_nat q 7
  obtain ⟨y, hy, e⟩ := ixn_pick (l := [(⟨#[]⟩ : ByteArray), (⟨#[]⟩ : ByteArray), (⟨#[10]⟩ : ByteArray), (⟨#[59, 32, 40, 120, 41, 32, 121, 10]⟩ : ByteArray), (⟨#[9, 32, 10]⟩ : ByteArray), (⟨#[32]⟩ : ByteArray), (⟨#[9]⟩ : ByteArray)]) (J := q % 7) hmod (fun y108 => grd (7 ≠ 0) (grd (0 ≤ ((q % 7 : Nat) : Int)) (grd (((q % 7 : Nat) : Int) < ((7 : Nat) : Int)) (grd ((ofB v).size + y108.size ≤ 9223372036854775807) (some ((ofB v ++ y108), false))))))
  have hbg : Begin (bl y) ∧ y.size ≤ 8 := by
    simp only [List.mem_cons, List.not_mem_nil, or_false] at hy
    rcases hy with rfl | rfl | rfl | rfl | rfl | rfl | rfl
    · exact ⟨.inl rfl, by decide⟩
    · exact ⟨.inl rfl, by decide⟩
    · exact ⟨.inr (.inl rfl), by decide⟩
    · exact ⟨.inr (.inr (.inl rfl)), by decide⟩
    · exact ⟨.inr (.inr (.inr (.inl rfl))), by decide⟩
    · exact ⟨.inr (.inr (.inr (.inr (.inl rfl)))), by decide⟩
    · exact ⟨.inr (.inr (.inr (.inr (.inr rfl)))), by decide⟩
  refine ⟨bl y, hbg.1, ?_⟩
  have key : ∀ R, M_l13_PlanfileComments_L1 a2 z (k + 1) (ofB (v ++ bl y)) false (n : Int) = R → M_l13_PlanfileComments_L1 a2 z (k + 1) (ofB v) true (n : Int) = R := by
    intro R hR
    rw [M_l13_PlanfileComments_L1, sel_dec, if_pos (by omega), q2, ob1_some, sel_ff] at hR
    rw [M_l13_PlanfileComments_L1, sel_dec, if_pos (by omega), q2, ob1_some, sel_tt, e7, Int.toNat_natCast, e, grd_t (by decide), grd_t (by omega), grd_t (by omega), ofB_size, grd_t (by omega), app_bl]
    exact hR
  exact key _ rfl
theorem com_line (a2 : List Int) (hq : a2.length ≤ 100 ∧ ∀ z ∈ a2, 0 ≤ z ∧ z ≤ 255) (z : ByteArray) (hz : z.size ≤ 100000) : ∀ (l rest : List UInt8) (k n : Nat) (v : List UInt8), (bl z).drop n = l ++ rest → (10 : UInt8) ∉ l → v.length + 10 * l.length ≤ 9000000 → ∃ m, Chg l m ∧ M_l13_PlanfileComments_L1 a2 z (k + l.length) (ofB v) false (n : Int) = M_l13_PlanfileComments_L1 a2 z k (ofB (v ++ m)) false ((n + l.length : Nat) : Int)
  | [], rest, k, n, v, _, _, _ => ⟨[], .nil, by simp⟩
  | c :: l, rest, k, n, v, hd, h10, hv => by
    have hc : (bl z)[n]? = some c := by
      have := congrArg (fun L => L[0]?) hd
      simpa [List.getElem?_drop] using this
    have hd2 : (bl z).drop (n + 1) = l ++ rest := by
      have := congrArg List.tail hd
      simpa [List.tail_drop] using this
    rw [List.length_cons] at hv
    obtain ⟨p, _, p2, p3, p4⟩ := com_step a2 hq z hz (k + l.length) n v c hc (by omega)
    have hc10 : c ≠ 10 := fun e => h10 (by rw [e]; simp)
    obtain ⟨m, m1, m2⟩ := com_line a2 hq z hz l rest k (n + 1) (v ++ p) hd2 (fun e => h10 (by simp [e])) (by rw [List.length_append]; omega)
    refine ⟨p ++ m, .cons (p2 hc10) m1, ?_⟩
    rw [List.length_cons, show k + (l.length + 1) = k + l.length + 1 by omega, p4, decide_eq_false hc10, m2, List.append_assoc, show n + 1 + l.length = n + (l.length + 1) by omega]
theorem com_text (a2 : List Int) (hq : a2.length ≤ 100 ∧ ∀ z ∈ a2, 0 ≤ z ∧ z ≤ 255) (z : ByteArray) (hz : z.size ≤ 100000) : ∀ (Y : List (List UInt8)) (k n : Nat) (v : List UInt8), (bl z).drop n = (Y.map (· ++ [10])).flatten → n ≤ z.size → (∀ y ∈ Y, (10 : UInt8) ∉ y ∧ y ≠ []) → v.length + 10 * ((Y.map (· ++ [10])).flatten).length ≤ 9000000 → ∃ t, ChgT Y t ∧ M_l13_PlanfileComments_L1 a2 z (k + 1 + ((Y.map (· ++ [10])).flatten).length) (ofB v) true (n : Int) = some (ofB (v ++ t))
  | [], k, n, v, hd, hn, _, _ => by
    refine ⟨[], .nil, ?_⟩
    have h1 : z.size ≤ n := by
      have := congrArg List.length hd
      simp [bl_len] at this
      omega
    rw [List.map_nil, List.flatten_nil, List.length_nil, Nat.add_zero, M_l13_PlanfileComments_L1, sel_dec, if_neg (by omega), List.append_nil]
  | y :: Y, k, n, v, hd, hn, hY, hv => by
    obtain ⟨h10, hne⟩ := hY y (by simp)
    have ef : ((y :: Y).map (· ++ [10])).flatten = y ++ (10 :: (Y.map (· ++ [10])).flatten) := by simp
    rw [ef] at hd hv ⊢
    have hlen : (y ++ (10 :: (Y.map (· ++ [10])).flatten)).length = y.length + 1 + ((Y.map (· ++ [10])).flatten).length := by simp; omega
    rw [hlen] at hv ⊢
    have hnz : n + (y.length + 1 + ((Y.map (· ++ [10])).flatten).length) = z.size := by
      have := congrArg List.length hd
      rw [hlen, List.length_drop, bl_len] at this
      omega
    obtain ⟨b, b1, b2⟩ := com_begin a2 hq z hz (k + y.length + 1 + ((Y.map (· ++ [10])).flatten).length) n v (by omega) (by omega)
    have hb : b.length ≤ 8 := by rcases b1 with rfl | rfl | rfl | rfl | rfl | rfl <;> simp
    have hpos : 1 ≤ y.length := by
      cases y with
      | nil => exact absurd rfl hne
      | cons => simp
    obtain ⟨m, m1, m2⟩ := com_line a2 hq z hz y _ (k + 1 + ((Y.map (· ++ [10])).flatten).length + 1) n (v ++ b) hd h10 (by rw [List.length_append]; omega)
    have hm := m1.length
    have hd2 : (bl z).drop (n + y.length) = 10 :: (Y.map (· ++ [10])).flatten := by
      rw [← List.drop_drop, hd, List.drop_left]
    have hc : (bl z)[n + y.length]? = some 10 := by
      have := congrArg (fun L => L[0]?) hd2
      simpa [List.getElem?_drop] using this
    have hd3 : (bl z).drop (n + y.length + 1) = (Y.map (· ++ [10])).flatten := by
      have := congrArg List.tail hd2
      simpa [List.tail_drop] using this
    obtain ⟨p, p1, _, _, p4⟩ := com_step a2 hq z hz (k + 1 + ((Y.map (· ++ [10])).flatten).length) (n + y.length) (v ++ b ++ m) 10 hc (by simp only [List.length_append]; omega)
    obtain rfl := p1 rfl
    obtain ⟨t, t1, t2⟩ := com_text a2 hq z hz Y k (n + y.length + 1) (v ++ b ++ m ++ [10]) hd3 (by omega) (fun w hw => hY w (by simp [hw])) (by simp only [List.length_append, List.length_cons, List.length_nil]; omega)
    refine ⟨b ++ m ++ [10] ++ t, .cons b1 m1 t1, ?_⟩
    rw [show k + 1 + (y.length + 1 + ((Y.map (· ++ [10])).flatten).length) = k + y.length + 1 + ((Y.map (· ++ [10])).flatten).length + 1 by omega, b2, show k + y.length + 1 + ((Y.map (· ++ [10])).flatten).length + 1 = k + 1 + ((Y.map (· ++ [10])).flatten).length + 1 + y.length by omega, m2, p4, decide_eq_true rfl, t2]
    simp
theorem comments_true (l : List GStep) (timed : Bool) (a2 : List Int) (h : lenL l ≤ 4000000000000000000) (hq : ∀ z ∈ a2, 0 ≤ z ∧ z ≤ 255) (ha : a2.length ≤ 4000000000000000000) : M_l13_PlanfileComments l timed a2 = some true := by
  rw [M_l13_PlanfileComments, long_eq l h, ob1_some, awake_eq, ob1_some, ob1_some]
  by_cases hl : lenL l > 3000
  · rw [decide_eq_true hl]
    rfl
  · have hl' : lenL l ≤ 3000 := by omega
    rw [decide_eq_false hl, sel_ff, sel_dec, List.length_map]
    by_cases h100 : a2.length > 100
    · rw [if_pos (by omega)]
      rfl
    · have hsm := sm_of hl'
      rw [if_neg (by omega), sel_not, sel_tt, ob1_some, osum_inl, format_eq l timed hl', ob2_some]
      cases hg : l.all goodF with
      | false =>
        have e : fmtF l timed = ([], 8) := by unfold fmtF; rw [hg]; rfl
        rw [e]
        rfl
      | true =>
        cases hr : l.all (rngF timed) with
        | false =>
          have e : fmtF l timed = ([], 1) := by unfold fmtF; rw [hg, hr]; rfl
          rw [e]
          rfl
        | true =>
          have hgr : ∀ x ∈ l, goodF x = true ∧ rngF timed x = true := fun x hx => ⟨List.all_eq_true.1 hg x hx, List.all_eq_true.1 hr x hx⟩
          have h1 := text_small hl' hg hr
          have h2 := text_len2 timed l hgr
          have h3 := (text_len timed l hgr).2
          have e : fmtF l timed = (textL timed l, 0) := by unfold fmtF; rw [hg, hr]; rfl
          rw [e]
          have hne : ∀ y ∈ l.map (bodyL timed), (10 : UInt8) ∉ y ∧ y ≠ [] := fun y hy => by
            obtain ⟨x, hx, rfl⟩ := List.mem_map.1 hy
            refine ⟨body_free (hgr x hx).1 (hgr x hx).2, ?_⟩
            unfold bodyL
            simp
          have hlt := text_lines timed l
          obtain ⟨t, t1, t2⟩ := com_text a2 ⟨by omega, hq⟩ (ofB (textL timed l)) (by rw [ofB_size]; omega) (l.map (bodyL timed)) 0 0 [] (by rw [bl_ofB, List.drop_zero, hlt]) (Nat.zero_le _) hne (by rw [← hlt]; simp; omega)
          rw [← hlt, List.nil_append] at t2
          have htl := trT_len t1 hgr
          have hN : 34 * l.length + 2 * (l.map lenS).sum ≤ 60000 := by
            unfold lenL at hl'
            omega
          obtain ⟨Y, y1, y2, y3⟩ := trT_lines t1 hgr
          have happ : ofB t ++ (⟨#[10, 59]⟩ : ByteArray) = ofB (t ++ [10, 59]) := by rw [← ofB_app]; rfl
          have hpf : parseF (ofB (t ++ [10, 59])) timed = (l, 0, 0) := by
            have e2 : t ++ [10, 59] = (Y.map (· ++ [10])).flatten ++ [10, 59] := by rw [y1]
            have e3 : splitL 10 (t ++ [10, 59]) = Y ++ [[], [59]] := by rw [e2, split_lines _ Y y2]; rfl
            unfold parseF
            rw [ofB_size, if_neg (by simp; omega), bl_ofB, e3, List.map_append, lines_parse y3, List.nil_append, List.map_cons, List.map_cons, List.map_nil, parseL, if_pos skip_nil, parseL, if_pos (by kernel_rfl), parseL]
          show ob1 (M_l13_PlanfileComments_L1 a2 (ofB (textL timed l)) ((((ofB (textL timed l)).size : Int)).toNat + 1) (⟨#[]⟩ : ByteArray) true 0) _ = some true
          rw [ofB_size, Int.toNat_natCast, show (textL timed l).length + 1 = 0 + 1 + (textL timed l).length by omega, show M_l13_PlanfileComments_L1 a2 (ofB (textL timed l)) (0 + 1 + (textL timed l).length) (⟨#[]⟩ : ByteArray) true 0 = _ from t2, ob1_some, happ, parse_eq _ _ (by rw [ofB_size]; simp; omega), hpf, ob3_some, ofB_size, grd_t (by show _ + 2 ≤ _; omega)]
          show erM (erOf 0) (ob1 (M_l13_Same l l) (fun z118 => some z118)) (fun _ => some false) = some true
          rw [same_eq l l (by omega) (fun x hx => by have := (hsm.2 x hx).args; omega), decide_eq_true rfl]
          rfl
end Go.Proofs.YtljekaadbabhkaaDoor.Am
/- Opening arguments: slices of numbers, of facts, of nogoods, a certificate. -/
namespace Go.Proofs.YtljekaadbabhkaaDoor
open Go.RowKit Go.ChangeShapes Go.WideShapes Go.Deep Go.Joins

section
variable {H : Type} {enc : TypeId × Value → H} {P : Program} {w : World} {base : Nat} {spare : Nat → Bool} {held : Bool}

/-- within the form's reach -/
def Sized (P : Program) (t : TypeId) (d : DataW H) : Prop := ∀ n ∈ d.weights P t, n ≤ reachBytes
theorem sized_arg {ts : List TypeId} {ds : List (DataW H)} (h : (DataW.weightsEach P ts ds).all (· ≤ reachBytes) = true) {j : Nat} {t : TypeId} {d : DataW H} (ht : ts[j]? = some t) (hd : ds[j]? = some d) : Sized P t d :=
  fun n hn => of_decide_eq_true (List.all_eq_true.1 h n (DataW.weights_mem_each ht hd n hn))
theorem sized_field {t : TypeId} {fs : Array Field} {parts : List (DataW H)} (h : Sized P t (.agg parts)) (hu : P.underlying t = some (.struct fs)) {j : Nat} {f : Field} {d : DataW H} (hf : fs[j]? = some f) (hd : parts[j]? = some d) : Sized P f.type d :=
  fun n hn => h n (by
    simp only [DataW.weights, hu]
    exact DataW.weights_mem_each (j := j) (by simp [List.getElem?_map, hf]) hd n hn)
theorem weightsAll_mem {e : TypeId} : ∀ {l : List (DataW H)} {d : DataW H}, d ∈ l → ∀ n ∈ d.weights P e, n ∈ DataW.weightsAll P e l
  | x :: l, d, hd, n, hn => by
    simp only [DataW.weightsAll, List.mem_append]
    rcases List.mem_cons.1 hd with rfl | h
    · exact Or.inl hn
    · exact Or.inr (weightsAll_mem h n hn)
theorem sized_elem {t e : TypeId} {elems sp : List (DataW H)} (h : Sized P t (.slice elems sp)) (hu : P.underlying t = some (.slice e)) {d : DataW H} (hd : d ∈ elems) : Sized P e d :=
  fun n hn => h n (by
    simp only [DataW.weights, hu, List.mem_cons, List.mem_append]
    exact Or.inr (Or.inl (weightsAll_mem hd n hn)))
theorem sized_len {t e : TypeId} {elems sp : List (DataW H)} (h : Sized P t (.slice elems sp)) (hu : P.underlying t = some (.slice e)) : elems.length * P.bytesOf e ≤ 140737488355328 := by
  have h1 := h ((elems.length + sp.length) * P.bytesOf e) (by simp [DataW.weights, hu])
  have h2 : elems.length * P.bytesOf e ≤ (elems.length + sp.length) * P.bytesOf e := Nat.mul_le_mul_right _ (by omega)
  have h3 : reachBytes ≤ 140737488355328 := by decide
  omega

end

theorem spot_of_cell {w : World} {p : Addr} {v : Value} (h : w.cell? p = some v) : p.spot = none := by
  unfold World.cell? at h
  split at h
  · split at h
    · cases h
    · rename_i hs; simpa using hs
  · cases h
theorem addr_of_cell {w : World} {a : Addr} {k : Nat} {v : Value} (h0 : ∃ u, w.cell? (a.add 0) = some u) (h : w.cell? (a.add k) = some v) : a = ⟨a.block, a.off, none⟩ ∧ w.cell? ⟨a.block, a.off + k, none⟩ = some v := by
  obtain ⟨u, hu⟩ := h0
  have hs := spot_of_cell hu
  obtain ⟨b, off, sp⟩ := a
  simp [Addr.add] at hs
  subst hs
  refine ⟨rfl, ?_⟩
  rw [← h]
  congr 1
  unfold Addr.add
  split
  · subst k; rfl
  · rfl

theorem list_of {α : Type} (n : Nat) (R : Nat → α → Prop) (h : ∀ i, i < n → ∃ x, R i x) : ∃ l : List α, l.length = n ∧ ∀ k x, l[k]? = some x → R k x := by
  induction n with
  | zero => exact ⟨[], rfl, fun k x hx => by simp at hx⟩
  | succ n ih =>
    obtain ⟨l, hl, hr⟩ := ih (fun i hi => h i (by omega))
    obtain ⟨x, hx⟩ := h n (by omega)
    refine ⟨l ++ [x], by simp [hl], fun k y hy => ?_⟩
    by_cases hk : k < n
    · rw [List.getElem?_append_left (by omega)] at hy
      exact hr k y hy
    · rw [List.getElem?_append_right (by omega)] at hy
      have hk' : k - l.length = 0 := by
        have := (List.getElem?_eq_some_iff.1 hy).1
        simp at this
        omega
      rw [hk'] at hy
      simp at hy
      subst hy
      obtain rfl : k = n := by omega
      exact hx

end Go.Proofs.YtljekaadbabhkaaDoor
/- Opening arguments for the abstract machine: readers that compose. -/
namespace Go.Proofs.YtljekaadbabhkaaDoor.Am
open Go.RowKit Go.ChangeShapes Go.WideShapes Go.Deep Go.Joins

/-- nothing is owned at the start -/
abbrev mZ : MM := mO (fun _ => False)
theorem noZ (b : Nat) : ¬ Owned nov mZ b := fun h => owned_nov.1 h

section
variable {H : Type} {enc : TypeId × Value → H} {P : Program} {w : World} {base : Nat} {spare : Nat → Bool} {held : Bool}
/-- cells that stand for the values -/
def CellsRv (w : World) (es : List AV) (cs : List Value) : Prop := es.length = cs.length ∧ (∀ (j : Nat) (y : AV) (u : Value), es[j]? = some y → cs[j]? = some u → RV w nov mZ y u ∧ u.oneCell' = true) ∧ ∀ y ∈ es, Fr y
theorem cells_one1 {y : AV} {u : Value} (h : RV w nov mZ y u) (h1 : u.oneCell' = true) (hf : Fr y) : CellsRv w [y] [u] := by
  refine ⟨rfl, fun j z v hz hv => ?_, fun z hz => by simp at hz; subst hz; exact hf⟩
  cases j with
  | zero => simp at hz hv; subst hz hv; exact ⟨h, h1⟩
  | succ j => simp at hz
theorem cells_append {a b : List AV} {xs ys : List Value} (h1 : CellsRv w a xs) (h2 : CellsRv w b ys) : CellsRv w (a ++ b) (xs ++ ys) := by
  refine ⟨by rw [List.length_append, List.length_append, h1.1, h2.1], fun j y u hy hu => ?_, fun y hy => ?_⟩
  · rcases Nat.lt_or_ge j a.length with hlt | hge
    · rw [List.getElem?_append_left hlt] at hy
      rw [List.getElem?_append_left (by rw [← h1.1]; exact hlt)] at hu
      exact h1.2.1 j y u hy hu
    · rw [List.getElem?_append_right hge] at hy
      rw [List.getElem?_append_right (by rw [← h1.1]; exact hge)] at hu
      rw [h1.1] at hy
      exact h2.2.1 _ y u hy hu
  · rcases List.mem_append.1 hy with h | h
    · exact h1.2.2 y h
    · exact h2.2.2 y h
theorem one_rv {y : AV} {u : Value} (h : CellsRv w [y] [u]) : RV w nov mZ y u := (h.2.1 0 y u rfl rfl).1
end
end Go.Proofs.YtljekaadbabhkaaDoor.Am
/- Opening arguments for the abstract machine, with a bound on their bulk. -/
namespace Go.Proofs.YtljekaadbabhkaaDoor.Am
open Go.RowKit Go.ChangeShapes Go.WideShapes Go.Deep Go.Joins

theorem bulk_one {H : Type} (d : DataW H) : 1 ≤ Rows.uptoBulk d := by
  cases d with
  | lit l => cases l <;> simp [Rows.uptoBulk]
  | nil => simp [Rows.uptoBulk]
  | ptr d => simp [Rows.uptoBulk]
  | slice elems spare => simp [Rows.uptoBulk]
  | agg parts => simp [Rows.uptoBulk]
  | iface t d => simp [Rows.uptoBulk]
  | map entries => simp [Rows.uptoBulk]
  | held h => simp [Rows.uptoBulk]
theorem sum_bulk {H : Type} {α : Type} {wt : α → Nat} : ∀ (l : List α) (e : List (DataW H)), l.length = e.length → (∀ (k : Nat) (z : α) (d : DataW H), l[k]? = some z → e[k]? = some d → wt z ≤ Rows.uptoBulk d) → (l.map wt).sum ≤ Rows.uptoBulkAll e
  | [], [], _, _ => by simp
  | z :: l, d :: e, hl, h => by
    have h0 := h 0 z d rfl rfl
    have h1 := sum_bulk l e (by simpa using hl) (fun k y c hy hc => h (k + 1) y c (by simpa using hy) (by simpa using hc))
    simp only [List.map_cons, List.sum_cons, Rows.uptoBulkAll]
    omega
  | [], _ :: _, hl, _ => by simp at hl
  | _ :: _, [], hl, _ => by simp at hl
section
variable {H : Type} {enc : TypeId × Value → H} {P : Program} {w : World} {base : Nat} {spare : Nat → Bool} {held : Bool}
/-- data of type t read as an α, of a weight -/
def OpensB (enc : TypeId × Value → H) (P : Program) (w : World) (base : Nat) (spare : Nat → Bool) (held : Bool) (t : TypeId) {α : Type} (en : α → List AV) (R : α → Prop) (wt : α → Nat) : Prop :=
  ∀ (fuel : Nat) (cs : List Value) (x : DataW H × List MemPlace), DataW.trod enc P w base spare held fuel t cs = some x → Sized P t x.1 → ∃ a, R a ∧ wt a ≤ Rows.uptoBulk x.1 ∧ CellsRv w (en a) cs
theorem opensB_int {t : TypeId} {k : IntKind} (ht : P.underlying t = some (.int k)) : OpensB enc P w base spare held t (fun z : Int => [.c (.int k z)]) (fun z => (Lit.int k z).wf = true) (fun _ => 1) := by
  intro fuel cs x h _
  obtain ⟨z, rfl, _, wz⟩ := DataW.trod_int ht h
  exact ⟨z, wz, bulk_one _, cells_one1 (.c _) rfl (.c _)⟩
theorem opensB_str {t : TypeId} (ht : P.underlying t = some .string) : OpensB enc P w base spare held t (fun s : ByteArray => [.c (.string s)]) (fun s => s.size ≤ 140737488355328) (fun s => s.size + 1) := by
  intro fuel cs x h hsz
  obtain ⟨s, rfl, rfl, -⟩ := DataW.trod_string ht h
  have e : s.data.toList.length = s.size := by rw [Array.length_toList]; rfl
  refine ⟨s, ?_, ?_, cells_one1 (.c _) rfl (.c _)⟩
  · have h1 : s.data.toList.length ≤ 140737488355328 := Nat.le_trans (hsz s.data.toList.length (List.mem_singleton.2 rfl)) (by decide)
    show s.size ≤ _
    omega
  · simp only [Rows.uptoBulk, e]
    omega
theorem opensB_slice {t e : TypeId} {α : Type} {en : α → List AV} {R : α → Prop} {wt : α → Nat} {sz by_ : Nat} (ht : P.underlying t = some (.slice e)) (hc : P.cellsOf e = sz) (hb : P.bytesOf e = by_) (hby : 0 < by_) (hsz : 0 < sz) (he : OpensB enc P w base spare held e en R wt) :
    OpensB enc P w base spare held t (fun l : List α => [.sl sz (l.map en)]) (fun l => l.length * by_ ≤ 140737488355328 ∧ ∀ x ∈ l, R x) (fun l => (l.map wt).sum + 1) := by
  intro fuel cs x h hs
  rcases open_slice ht h with ⟨rfl, _⟩ | ⟨a, len, cap, m, n, D, Pl, rfl, _, hl, hm, hmm, rfl, hi⟩
  · refine ⟨[], ⟨by simp, by simp⟩, by simpa using bulk_one _, cells_one1 ?_ rfl (.sl (fun e he => by cases he))⟩
    exact RV.sl (l := []) (b := 0) (off := 0) (f := fun _ _ => undef) (fun h => absurd rfl h) (Nat.zero_le _) (by simp) (fun k e h => by simp at h) (fun k j e x h => by simp at h) (fun k j e x h => by simp at h) (fun e he => by cases he)
  · have hlen := sized_len hs ht
    rw [hb] at hlen
    simp only [List.length_map, List.length_range] at hlen
    have hml : len ≤ m := by rw [hmm]; split <;> omega
    have hcell : ∀ i, i < len → ∃ z : α, (R z ∧ wt z ≤ Rows.uptoBulk (D i)) ∧ ∃ cs', CellsRv w (en z) cs' ∧ cs'.length = sz ∧ ∀ j, j < sz → w.cell? (a.add (i * sz + j)) = cs'[j]? := by
      intro i hi'
      obtain ⟨cs', hcc, ht'⟩ := hi i (by omega)
      rw [hc] at hcc
      obtain ⟨z, hz, hwz, hcr⟩ := he n cs' _ ht' (sized_elem hs ht (List.mem_map.2 ⟨i, by simpa using hi', rfl⟩))
      obtain ⟨_, hcl', hat⟩ := World.cells?_some hcc
      exact ⟨z, ⟨hz, hwz⟩, cs', hcr, hcl', fun j hj => by rw [← hat j hj, Go.Deep.add_add]⟩
    obtain ⟨l, hl', hat⟩ := list_of len _ hcell
    have hR : ∀ x ∈ l, R x := fun x hx => by
      obtain ⟨k, hk⟩ := List.getElem?_of_mem hx
      exact (hat k x hk).1.1
    have hfr : FrL (l.map en) := by
      intro e he
      obtain ⟨x, hx, rfl⟩ := List.mem_map.1 he
      obtain ⟨k, hk⟩ := List.getElem?_of_mem hx
      obtain ⟨_, cs', hcr, _⟩ := hat k x hk
      exact hcr.2.2
    refine ⟨l, ⟨by rw [hl']; exact hlen, hR⟩, ?_, cells_one1 ?_ rfl (.sl hfr)⟩
    · have hb1 := sum_bulk (wt := wt) l ((List.range len).map D) (by simp [hl']) (fun k z d hz hd => by
        rw [List.getElem?_map] at hd
        have hk : k < len := by rw [← hl']; exact (List.getElem?_eq_some_iff.1 hz).1
        rw [List.getElem?_range hk] at hd
        injection hd with hd
        rw [← hd]
        exact (hat k z hz).1.2)
      simp only [Rows.uptoBulk]
      omega
    have key : ∀ (k j : Nat) (e : List AV) (y : AV), (l.map en)[k]? = some e → e[j]? = some y → e.length = sz ∧ ∃ u, w.cell? ⟨a.block, a.off + (k * sz + j), none⟩ = some u ∧ u.oneCell' = true ∧ RV w nov mZ y u ∧ a = ⟨a.block, a.off, none⟩ ∧ a.block < w.heap.size := by
      intro k j e y hk hj
      rw [List.getElem?_map] at hk
      cases hx : l[k]? with
      | none => rw [hx] at hk; cases hk
      | some z =>
        rw [hx] at hk
        simp at hk
        subst hk
        obtain ⟨_, cs', ⟨c1, c2, _⟩, c4, c5⟩ := hat k z hx
        have hjl : j < sz := by rw [← c4, ← c1]; exact (List.getElem?_eq_some_iff.1 hj).1
        have hcj := c5 j hjl
        have hget : cs'[j]? = some (cs'[j]'(by omega)) := List.getElem?_eq_getElem _
        rw [hget] at hcj
        obtain ⟨r1, r2⟩ := c2 j y _ hj hget
        have h0 : 0 < len := by have := (List.getElem?_eq_some_iff.1 hx).1; omega
        obtain ⟨_, _, cs0, ⟨_, _, _⟩, d4, d5⟩ := hcell 0 h0
        have hz0 := d5 0 hsz
        rw [List.getElem?_eq_getElem (by omega)] at hz0
        obtain ⟨e1, e2⟩ := addr_of_cell ⟨_, by simpa using hz0⟩ hcj
        exact ⟨by rw [c1, c4], _, e2, r2, r1, e1, lt_of_cell (p := ⟨a.block, a.off + (k * sz + j), none⟩) e2⟩
    have hlen2 : (l.map en).length = len := by simp [hl']
    have := RV.sl (w := w) (vs := nov) (m := mZ) (sz := sz) (l := l.map en) (A := some a) (cap := cap) (b := a.block) (off := a.off) (f := fun k j => (w.cell? ⟨a.block, a.off + (k * sz + j), none⟩).getD undef)
      (fun hne => ?_) (by omega) (by rw [hlen2]; exact Nat.le_trans (Nat.le_mul_of_pos_right _ hby) hlen) (fun k e hk => ?_) (fun k j e y hk hj => ?_) (fun k j e y hk hj => ?_) hfr
    · rw [hlen2] at this
      exact this
    · have h0 : 0 < (l.map en).length := List.length_pos_iff.2 hne
      have hk := List.getElem?_eq_getElem h0
      obtain ⟨x0, hx0, hx0'⟩ : ∃ x0, l[0]? = some x0 ∧ (l.map en)[0] = en x0 := by
        have h1 : 0 < l.length := by simpa using h0
        exact ⟨l[0], List.getElem?_eq_getElem h1, by simp⟩
      obtain ⟨_, cs', ⟨c1, _, _⟩, c4, _⟩ := hat 0 x0 hx0
      have hel : 0 < ((l.map en)[0]).length := by rw [hx0', c1, c4]; exact hsz
      obtain ⟨_, _, _, _, _, q1, q2⟩ := key 0 0 _ _ hk (List.getElem?_eq_getElem hel)
      exact ⟨by rw [← q1], noZ _, q2⟩
    · rw [List.getElem?_map] at hk
      cases hx : l[k]? with
      | none => rw [hx] at hk; cases hk
      | some z =>
        rw [hx] at hk
        simp at hk
        subst hk
        obtain ⟨_, cs', ⟨c1, _, _⟩, c4, _⟩ := hat k z hx
        rw [c1, c4]
    · obtain ⟨_, u, q1, q2, _⟩ := key k j e y hk hj
      rw [q1]
      exact ⟨rfl, q2⟩
    · obtain ⟨_, u, q1, _, q3, _⟩ := key k j e y hk hj
      rw [q1]
      exact q3

/-- fields from one on -/
def OpensFB (enc : TypeId × Value → H) (P : Program) (w : World) (base : Nat) (spare : Nat → Bool) (held : Bool) (fs : List Field) (off tot : Nat) {α : Type} (en : α → List AV) (R : α → Prop) (wt : α → Nat) : Prop :=
  ∀ (fuel : Nat) (cs : List Value) (xs : List (DataW H × List MemPlace)), cs.length = tot → xs.length = fs.length → (∀ (i : Nat) (f : Field), fs[i]? = some f → DataW.trod enc P w base spare held fuel f.type ((cs.drop f.offset).take (P.cellsOf f.type)) = xs[i]?) →
    (∀ (i : Nat) (f : Field) (x : DataW H × List MemPlace), fs[i]? = some f → xs[i]? = some x → Sized P f.type x.1) → ∃ a, R a ∧ wt a ≤ Rows.uptoBulkAll (xs.map (·.1)) ∧ CellsRv w (en a) (cs.drop off)
theorem opensFB_last {f : Field} {off tot : Nat} {α : Type} {en : α → List AV} {R : α → Prop} {wt : α → Nat} (ho : f.offset = off) (htot : off + P.cellsOf f.type = tot) (h : OpensB enc P w base spare held f.type en R wt) : OpensFB enc P w base spare held [f] off tot en R wt := by
  intro fuel cs xs hcl hx ht hs
  obtain ⟨x, rfl⟩ := List.length_eq_one_iff.1 hx
  have h1 := ht 0 f rfl
  obtain ⟨a, ha, hw, hc⟩ := h fuel _ x h1 (hs 0 f x rfl rfl)
  refine ⟨a, ha, by simpa [Rows.uptoBulkAll] using hw, ?_⟩
  rw [ho, List.take_of_length_le (by simp; omega)] at hc
  exact hc
theorem opensFB_cons {f : Field} {fs : List Field} {off off' tot : Nat} {α β : Type} {en : α → List AV} {R : α → Prop} {wt : α → Nat} {en' : β → List AV} {R' : β → Prop} {wt' : β → Nat} (ho : f.offset = off) (hoff : off + P.cellsOf f.type = off') (h : OpensB enc P w base spare held f.type en R wt) (h' : OpensFB enc P w base spare held fs off' tot en' R' wt') :
    OpensFB enc P w base spare held (f :: fs) off tot (fun p : α × β => en p.1 ++ en' p.2) (fun p => R p.1 ∧ R' p.2) (fun p => wt p.1 + wt' p.2) := by
  intro fuel cs xs hcl hx ht hs
  cases xs with
  | nil => simp at hx
  | cons x xs =>
    obtain ⟨a, ha, hw, hc⟩ := h fuel _ x (ht 0 f rfl) (hs 0 f x rfl rfl)
    obtain ⟨b, hb, hw', hc'⟩ := h' fuel cs xs hcl (by simpa using hx) (fun i g hg => by simpa using ht (i + 1) g (by simpa using hg)) (fun i g y hg hy => hs (i + 1) g y (by simpa using hg) (by simpa using hy))
    refine ⟨(a, b), ⟨ha, hb⟩, by simp only [List.map_cons, Rows.uptoBulkAll]; omega, ?_⟩
    rw [ho] at hc
    have : cs.drop off = (cs.drop off).take (P.cellsOf f.type) ++ cs.drop off' := by
      rw [← hoff, ← List.drop_drop, List.take_append_drop]
    rw [this]
    exact cells_append hc hc'
theorem opensB_struct {t : TypeId} {fs : Array Field} {α : Type} {en : α → List AV} {R : α → Prop} {wt : α → Nat} (ht : P.underlying t = some (.struct fs)) (h : OpensFB enc P w base spare held fs.toList 0 (P.cellsOf t) en R wt) : OpensB enc P w base spare held t en R wt := by
  intro fuel cs x hx hs
  obtain ⟨xs, n, _, rfl, hcl, hxl, hf⟩ := DataW.trod_struct ht hx
  obtain ⟨a, ha, hw, hc⟩ := h n cs xs hcl (by simpa using hxl) (fun i f hi => hf i f (by simpa using hi)) (fun i f y hi hy => sized_field hs ht (j := i) (by simpa using hi) (by simp [List.getElem?_map, hy]))
  exact ⟨a, ha, by simp only [Rows.uptoBulk]; omega, by simpa using hc⟩
theorem opensB_conv {t : TypeId} {α β : Type} {en : α → List AV} {en2 : β → List AV} {R : α → Prop} {R2 : β → Prop} {wt : α → Nat} {wt2 : β → Nat} (f : α → β) (h : OpensB enc P w base spare held t en R wt) (he : ∀ a, en2 (f a) = en a) (hR : ∀ a, R a → R2 (f a)) (hw : ∀ a, wt2 (f a) ≤ wt a) : OpensB enc P w base spare held t en2 R2 wt2 := by
  intro fuel cs x hx hs
  obtain ⟨a, ha, hwa, hc⟩ := h fuel cs x hx hs
  exact ⟨f a, hR a ha, Nat.le_trans (hw a) hwa, by rw [he]; exact hc⟩
/-- an argument of one cell -/
theorem arg_oneB {t : TypeId} {α : Type} {y : α → AV} {R : α → Prop} {wt : α → Nat} {v : Value} {d : DataW H} {p : List MemPlace} (hv : v.cells = #[v]) (ho : OpensB enc P w base spare held t (fun a => [y a]) R wt) (h : DataW.Trod enc P w base spare held t v d p) (hs : Sized P t d) :
    ∃ a, R a ∧ wt a ≤ Rows.uptoBulk d ∧ RV w nov mZ (y a) v := by
  obtain ⟨fuel, hf⟩ := h
  rw [hv] at hf
  obtain ⟨a, ha, hw, hc⟩ := ho fuel _ _ hf hs
  exact ⟨a, ha, hw, one_rv hc⟩
end
end Go.Proofs.YtljekaadbabhkaaDoor.Am
/- From a walk to a law's row: the arguments read behind the call as before, the result is true. -/
namespace Go.Proofs.YtljekaadbabhkaaDoor
open Go.RowKit Go.WideShapes Go.ChangeShapes Go.ChangeAt
section
variable {H : Type} {enc : TypeId × Value → H} {P : Program}
theorem post_of_below {f : Func} {s : ChangeSpec} {apart fresh handsOn again : Bool} {W W' : World} {args : Array Value} {v : Value} {ds gs : List (DataW H)} {before pa pv : List MemPlace}
    (hW : DataW.Whole enc P f.params.toList s.vars apart W args.toList ds gs before)
    (hres : ∀ (b : Nat) (sp : Nat → Bool) (hd : Bool), DataW.TrodAll enc P W' b sp hd f.resultTypes.toList (v.resultList f.resultTypes.size) (s.fn H (ds ++ gs)).results [])
    (hargs : ∀ sp : Nat → Bool, (∀ p ∈ before, sp p.block = true) → DataW.TrodAll enc P W' 0 sp true f.params.toList args.toList (s.fn H (ds ++ gs)).args pa)
    (hvars : ∀ sp : Nat → Bool, (∀ p ∈ before, sp p.block = true) → DataW.TrodVars enc P W' sp s.vars (s.fn H (ds ++ gs)).vars pv)
    (hps : before = pa ++ pv) (hb : Below W.heap.size W W')
    (hok : ∀ (j : Nat) (t : TypeId) (r : Value), f.resultTypes[j]? = some t → (v.resultList f.resultTypes.size)[j]? = some r → Value.okWide P W' .any 0 t r) :
    s.post enc P f apart fresh handsOn again W args v W' := by
  have hlt : ∀ p ∈ before, p.block < W.heap.size := fun p hp => hW.lt p hp
  have hold : ∀ p ∈ before, (fun b => decide (b < W.heap.size)) p.block = true := fun p hp => by simpa using hlt p hp
  refine ⟨ds, gs, before, [], pa, pv, hW, hres _ _ _, hargs _ hold, hvars _ hold, World.keptBut_mono (fun p hp => ⟨hp, ?_⟩) (hb.frame (· ∈ before)), fun _ => ?_⟩
  · rw [hps, List.mem_append] at hp
    exact Or.inr hp
  · obtain ⟨_, _, _, _, _, hz, hn⟩ := hW
    refine ⟨hok, _, _, ([] ++ pa) ++ pv, ⟨[] ++ pa, pv, trodAll_append (hargs _ (fun _ _ => rfl)) (hres _ _ _), hvars _ (fun _ _ => rfl), rfl, ?_, ?_⟩, ?_⟩
    · intro b off hp
      have hin : MemPlace.cell b off ∈ before := by rw [hps]; simpa using hp
      rw [hb.frozen (hlt _ hin)]
      exact hz b off hin
    · intro ha
      have := hn ha
      rw [hps] at this
      simpa using this
    · intro p hp _
      rw [hps]
      simpa using hp

theorem trodAll_keep (hl : laidOutB P = true) {W W' : World} (hb : Below W.heap.size W W') (sp : Nat → Bool) (ts : List TypeId) : ∀ (vs : List Value) (ds : List (DataW H)) (ps : List MemPlace), (∀ t ∈ ts, P.readableRec t = true ∧ t < P.types.size) →
    DataW.TrodAll enc P W 0 (fun _ => true) true ts vs ds ps → (∀ x ∈ ps, x.block < W.heap.size) → (∀ x ∈ ps, sp x.block = true) → DataW.TrodAll enc P W' 0 sp true ts vs ds ps := by
  induction ts with
  | nil =>
    intro vs ds ps _ h _ _
    obtain ⟨rfl, rfl, rfl⟩ := trodAll_nil h
    exact trodAll_mk0
  | cons t ts ih =>
    intro vs ds ps hts h hlt hsp
    obtain ⟨v0, vs0, d0, ds0, p0, q0, rfl, rfl, rfl, h0, r0⟩ := trodAll_cons h
    obtain ⟨hr, hrow⟩ := hts t (by simp)
    exact trodAll_cons_mk (WideElems.Trod_stays hl hr hrow h0 (fun x hx => hb.same (hlt x (by simp [hx]))) (fun x hx => hsp x (by simp [hx])))
      (ih _ _ _ (fun t ht => hts t (by simp [ht])) r0 (fun x hx => hlt x (by simp [hx])) (fun x hx => hsp x (by simp [hx])))

/-- A LAW: it returned true, nothing that was there has turned. -/
theorem law_post (hl : laidOutB P = true) {f : Func} {s : ChangeSpec} {T : TypeId} {W W' : World} {args : Array Value} {ds : List (DataW H)} {before : List MemPlace}
    (hvars : s.vars = []) (hrt : f.resultTypes = #[T]) (hT : P.underlying T = some .bool) (hts : f.params.toList.all (fun t => P.readableRec t && decide (t < P.types.size)) = true)
    (hW : DataW.Whole enc P f.params.toList s.vars false W args.toList ds [] before) (hA : DataW.TrodAll enc P W 0 (fun _ => true) true f.params.toList args.toList ds before)
    (e1 : (s.fn H (ds ++ [])).results = [.lit (.bool true)]) (e2 : (s.fn H (ds ++ [])).args = ds) (e3 : (s.fn H (ds ++ [])).vars = []) (hb : Below W.heap.size W W') :
    s.post enc P f false true false false W args (.bool true) W' := by
  have hlt : ∀ x ∈ before, x.block < W.heap.size := fun x hx => hW.lt x hx
  refine post_of_below (pa := before) (pv := []) hW ?_ ?_ ?_ (by simp) hb ?_
  · intro b sp hd
    rw [e1, hrt]
    exact trodAll_cons_mk (shut_bool hT true) trodAll_mk0
  · intro sp hsp
    rw [e2]
    exact trodAll_keep hl hb sp _ _ _ _ (fun t ht => by simpa using List.all_eq_true.1 hts t ht) hA hlt hsp
  · intro sp hsp
    rw [e3, hvars]
    rfl
  · exact ok_one hrt rfl (okWide_bool_mk hT true)
end
end Go.Proofs.YtljekaadbabhkaaDoor
/- Readers of steps, with a bound on what 'long' counts. -/
namespace Go.Proofs.YtljekaadbabhkaaDoor.Am
open Go.RowKit Go.ChangeShapes Go.WideShapes Go.Deep Go.Joins
section
variable {H : Type} {enc : TypeId × Value → H} {w : World} {base : Nat} {spare : Nat → Bool} {held : Bool}
set_option maxRecDepth 100000 in
theorem bStrs : OpensB enc Tryd.prog w base spare held 35 (fun l : List ByteArray => [.sl 1 (l.map cS)]) (fun l => l.length * 16 ≤ 140737488355328 ∧ ∀ s ∈ l, s.size ≤ 140737488355328) (fun l => (l.map (fun s : ByteArray => s.size + 1)).sum + 1) :=
  opensB_slice Tryd.underlying35 (by kernel_rfl) (by kernel_rfl) (by decide) (by decide) (opensB_str Tryd.underlying9)
theorem sum_lenW : ∀ l : List ByteArray, (l.map (fun s : ByteArray => s.size + 1)).sum = lenW l + l.length
  | [] => rfl
  | a :: r => by rw [List.map_cons, List.sum_cons, sum_lenW r, lenW_cons, List.length_cons]; omega
set_option maxRecDepth 100000 in
theorem bStep : OpensB enc Tryd.prog w base spare held 37 cGStep (fun _ => True) (fun x => lenS x + 1) :=
  opensB_conv (fun p : Int × (ByteArray × List ByteArray) => { At := p.1, Name := p.2.1, Args := p.2.2 : GStep })
    (opensB_struct Tryd.underlying37 (opensFB_cons (off' := 1) (en := fun z : Int => [AV.c (.int .i64 z)]) (R := fun z : Int => (Lit.int .i64 z).wf = true) (wt := fun _ => 1) (en' := fun p : ByteArray × List ByteArray => [AV.c (.string p.1)] ++ [AV.sl 1 (p.2.map cS)]) (R' := fun p : ByteArray × List ByteArray => p.1.size ≤ 140737488355328 ∧ (p.2.length * 16 ≤ 140737488355328 ∧ ∀ s ∈ p.2, s.size ≤ 140737488355328)) (wt' := fun p : ByteArray × List ByteArray => (p.1.size + 1) + ((p.2.map (fun s : ByteArray => s.size + 1)).sum + 1)) rfl (by kernel_rfl) (opensB_int Tryd.underlying3)
      (opensFB_cons (off' := 2) (en := fun s : ByteArray => [AV.c (.string s)]) (R := fun s => s.size ≤ 140737488355328) (wt := fun s => s.size + 1) (en' := fun l : List ByteArray => [AV.sl 1 (l.map cS)]) (R' := fun l : List ByteArray => l.length * 16 ≤ 140737488355328 ∧ ∀ s ∈ l, s.size ≤ 140737488355328) (wt' := fun l : List ByteArray => (l.map (fun s : ByteArray => s.size + 1)).sum + 1) rfl (by kernel_rfl) (opensB_str Tryd.underlying9) (opensFB_last rfl (by kernel_rfl) bStrs))))
    (fun _ => rfl) (fun _ _ => trivial) (fun p => by
      have := sum_lenW p.2.2
      show p.2.1.size + p.2.2.length + lenW p.2.2 + 1 ≤ _
      omega)
theorem sum_lenS : ∀ l : List GStep, (l.map (fun x => lenS x + 1)).sum = l.length + (l.map lenS).sum
  | [] => rfl
  | a :: r => by rw [List.map_cons, List.sum_cons, sum_lenS r, List.map_cons, List.sum_cons, List.length_cons]; omega
set_option maxRecDepth 100000 in
theorem bSteps : OpensB enc Tryd.prog w base spare held 23 (fun l : List GStep => [.sl 3 (l.map cGStep)]) (fun _ => True) lenL :=
  opensB_conv id (opensB_slice (sz := 3) (by_ := 48) Tryd.underlying23 (by kernel_rfl) (by kernel_rfl) (by decide) (by decide) bStep) (fun _ => rfl) (fun _ _ => trivial) (fun l => by rw [sum_lenS]; exact Nat.le_succ _)
set_option maxRecDepth 100000 in
theorem bBytes : OpensB enc Tryd.prog w base spare held 43 (fun l : List Int => [.sl 1 (l.map c_u8)]) (fun l => l.length * 1 ≤ 140737488355328 ∧ ∀ z ∈ l, (Lit.int .u8 z).wf = true) (fun l => (l.map (fun _ => 1)).sum + 1) :=
  opensB_slice (sz := 1) (by_ := 1) Tryd.underlying43 (by kernel_rfl) (by kernel_rfl) (by decide) (by decide) (opensB_int Tryd.underlying5)
end
theorem u8_wf {z : Int} (h : (Lit.int .u8 z).wf = true) : 0 ≤ z ∧ z ≤ 255 := by
  simp only [Lit.wf, Bool.and_eq_true, decide_eq_true_eq] at h
  have h1 : IntKind.u8.min = 0 := rfl
  have h2 : IntKind.u8.max = 255 := rfl
  omega
end Go.Proofs.YtljekaadbabhkaaDoor.Am
/- stratagemlaw13.PlanfileComments returns true for every input of bulk at most 1048576. No condition beyond the card's own. -/
namespace Go.Proofs.YtljekaadbabhkaaDoor.rowComments
open Go.ChangeShapes Go.WideShapes Go.ChangeAt Go.RowKit Am

theorem table {W : World} (h : laidMetH Tryd.prog Rows.planfileCommentsUptoRow.laid W) : TabOk W := by
  obtain ⟨ps, ⟨_, _, _, _, _, _, _, _, _, _, ⟨_, _, _, _, _, _, _, _, _, _, hr, _⟩, _⟩, _⟩ := h
  obtain ⟨g', t', cs, fuel, p, q, hg', ht', hvar, hd, _, _⟩ := hr
  obtain rfl := Option.some.inj (gPow.symm.trans hg')
  obtain rfl := Option.some.inj ((show (Tryd.prog.globals[3]?).map (·.type) = some 129 by kernel_rfl).symm.trans ht')
  unfold TabOk Lib.TabIs
  rw [hvar, ← Lib.cells_of_tab (zs := Lib.pow10Tab) Tryd.underlying129 Tryd.underlying117 (by kernel_rfl) (by kernel_rfl) hd]
set_option maxRecDepth 100000 in
theorem contract (H : Type) (enc : TypeId × Value → H) (W : World) (base : Nat) (args : Array Value) (ds gs : List (DataW H)) (before : List MemPlace)
    (hval : ∀ (j : Nat) t v, Tryd.f8.params[j]? = some t → args[j]? = some v → Value.okWide Tryd.prog W .any base t v)
    (hW : DataW.Whole enc Tryd.prog Tryd.f8.params.toList Rows.planfileCommentsSpec.vars false W args.toList ds gs before) (hL : laidMetH Tryd.prog Rows.planfileCommentsUptoRow.laid W)
    (hsz : (DataW.weightsEach Tryd.prog (Tryd.f8.params.toList ++ (OpenSpec.ofChange Rows.planfileCommentsSpec).bare.plain.varTypes Tryd.prog) (ds ++ gs)).all (· ≤ reachBytes) = true) (hsh : W.ShapedOpen Tryd.prog) (hk : Rows.uptoSmall H (ds ++ gs) = true) :
    Calls Tryd.prog 8 args W fun e W' => ∃ v, e = .returned v ∧ Rows.planfileCommentsSpec.post enc Tryd.prog Tryd.f8 false true false false W args v W' := by
  have hW' := hW
  obtain ⟨p, q, hA0, hV, rfl, hfz, hnd⟩ := hW
  have hA : DataW.TrodAll enc Tryd.prog W 0 (fun _ => true) true Tryd.f8.params.toList args.toList ds p := hA0
  rw [Tryd.params8] at hA hval
  obtain ⟨v0, vs0, d0, ds0, p0, q0, hargs, rfl, rfl, h0, r0⟩ := trodAll_cons hA
  obtain ⟨v1, vs1, d1, ds1, p1, q1, rfl, rfl, rfl, h1, r1⟩ := trodAll_cons r0
  obtain ⟨v2, vs2, d2, ds2, p2, q2, rfl, rfl, rfl, h2, r2⟩ := trodAll_cons r1
  obtain ⟨rfl, rfl, rfl⟩ := trodAll_nil r2
  obtain rfl : args = #[v0, v1, v2] := Array.ext' hargs
  obtain ⟨rfl, rfl⟩ := trodVars_none hV
  simp only [List.append_nil] at hW' hA0 hsz hk
  rw [Tryd.params8] at hsz
  obtain ⟨a0, len0, cap0, rfl⟩ := okWide_slice Tryd.underlying23 (hval 0 23 v0 rfl rfl)
  obtain ⟨b, rfl⟩ := okWide_bool Tryd.underlying4 (hval 1 4 v1 rfl rfl)
  obtain ⟨a2', len2, cap2, rfl⟩ := okWide_slice Tryd.underlying43 (hval 2 43 v2 rfl rfl)
  obtain ⟨a2, ha2, _, k2⟩ := arg_oneB rfl bBytes h2 (sized_arg hsz (j := 2) rfl rfl)
  obtain ⟨l, _, hb, k0⟩ := arg_oneB rfl bSteps h0 (sized_arg hsz (j := 0) rfl rfl)
  have hl : lenL l ≤ 4000000000000000000 := by
    have h1 := of_decide_eq_true hk
    simp only [Rows.uptoBulkAll] at h1
    omega
  refine (law_of (A_l13_PlanfileComments l b a2 (comments_true l b a2 hl (fun z hz => u8_wf (ha2.2 z hz)) (by have := ha2.1; omega))) ⟨table hL, Tryd.laysM146.s1_3 W hsh⟩ rfl (fun j x v hx hv => ?_)).mono fun e W' ⟨he, hb⟩ => ?_
  · match j, hx, hv with
    | 0, hx, hv => simp at hx hv; subst hx hv; exact k0
    | 1, hx, hv => simp at hx hv; subst hx hv; exact .c _
    | 2, hx, hv => simp at hx hv; subst hx hv; exact k2
    | j + 3, hx, hv => simp at hx
  · subst he
    exact ⟨_, rfl, law_post laidOut rfl (by kernel_rfl) Tryd.underlying4 (by kernel_rfl) hW' hA0 rfl rfl rfl hb⟩
theorem laid_met (os : Os) : laidMet Tryd.prog Rows.planfileCommentsUptoRow.laid ((laidWorld5 os).forCall (fun _ _ => 0) ⟨#[], #[.slice none 0 0, .bool false, .slice none 0 0], []⟩).memory :=
  laidMet_of_run' 8 (by kernel_rfl) (by kernel_rfl)
theorem reads (os : Os) {H : Type} (enc : TypeId × Value → H) : ∃ places, DataW.whole enc Tryd.prog ((laidWorld5 os).forCall (fun _ _ => 0) ⟨#[], #[.slice none 0 0, .bool false, .slice none 0 0], []⟩).memory Tryd.f8.params.toList Rows.planfileCommentsSpec.vars false (#[.slice none 0 0, .bool false, .slice none 0 0] : Array Value).toList 8 = some ([.nil, .lit (.bool false), .nil], [], places) :=
  ⟨[], by kernel_rfl⟩

set_option maxRecDepth 100000 in
theorem lifted (os : Os) (started : os.Started) (H : Type) (enc : TypeId × Value → H) (F : Stop.Interp) :
    ReturnsInHanded {} Tryd.checked os 8 .any ((Rows.OpenSpec.upto Rows.planfileCommentsSpec).preRow enc Tryd.prog Tryd.f8 Rows.planfileCommentsUptoRow.domain false Rows.planfileCommentsUptoRow.laid) (((Rows.OpenSpec.upto Rows.planfileCommentsSpec).at F).post enc Tryd.prog Tryd.f8 false true false false) := by
  obtain ⟨places, hx⟩ := reads os enc
  refine returnsInHanded_of_row (C := Tryd.checked) (s := Rows.OpenSpec.upto Rows.planfileCommentsSpec) own started (by kernel_rfl) Tryd.func8
    (witness_row_at (enc := enc) (C := Tryd.checked) false (laidWorld5 os) #[.slice none 0 0, .bool false, .slice none 0 0] rfl (by kernel_rfl) (by kernel_rfl) (by kernel_rfl)
      (OpenSpec.preRow_of_cond 8 hx (by kernel_rfl) (fun k hk => by cases hk; kernel_rfl) (by kernel_rfl) (laid_met os))) ?_
  intro W base args ds gs before hval hW _ hcond hsz hL hsh _
  exact contract H enc W base args ds gs before hval hW hL hsz hsh (hcond _ rfl)

theorem said : Rows.PlanfileCommentsUptoSaid :=
  OpenClaim.holds_of_cond 8 Tryd.f8 rfl rfl rfl rfl rfl rfl rfl ⟨rfl, rfl, rfl, rfl, rfl⟩ rfl rfl rfl rfl rfl (by kernel_rfl) Tryd.func8 (by kernel_rfl)
    (of_decide_eq_true (by kernel_rfl)) (by unfold Func.isWrapper; first | (rw [if_pos (by decide +kernel)]; kernel_rfl) | (rw [if_neg (by decide +kernel)]; exact ⟨rfl, rfl⟩))
    (fun os started H enc _ F => by rw [OpenClaim.pre_eq_preRow]; exact lifted os started H enc F)

theorem plain (f : FuncId) (fn : Func) (hf : Tryd.pinned.checked.prog.funcNamed Rows.planfileCommentsUptoRow.func = some f) (hfn : Tryd.pinned.checked.prog.funcs[f]? = some fn) :
    true = Tryd.pinned.checked.prog.looks [] ∧ ∀ (j : Nat) t, fn.params[j]? = some t → Tryd.pinned.checked.prog.wantsStandIn t = false := by
  obtain rfl : f = 8 := Option.some.inj ((show Tryd.prog.funcNamed Rows.planfileCommentsUptoRow.func = some 8 by kernel_rfl).symm.trans hf) |>.symm
  obtain rfl : fn = Tryd.f8 := (Option.some.inj (Tryd.func8.symm.trans hfn)).symm
  refine ⟨by kernel_rfl, fun j t ht => ?_⟩
  have hall : Tryd.f8.params.toList.all (fun t => !Tryd.prog.wantsStandIn t) = true := by kernel_rfl
  have := List.all_eq_true.1 hall t (by simpa using Array.mem_of_getElem? ht)
  have h2 : Tryd.prog.wantsStandIn t = false := by simpa using this
  exact h2

/-- THE CARD: stratagemlaw13's statement holds. -/
theorem card : Rows.PlanfileCommentsUptoCardSaid :=
  Claim7.holds_tied_plain_at .later [] _ _ _ _ said (fun _ h => by cases h) (by kernel_rfl) (fun _ h => by cases h) planfileCommentsUpto_row_tie rfl ⟨rfl, rfl⟩ (by kernel_rfl) rfl plain (by kernel_rfl)
end Go.Proofs.YtljekaadbabhkaaDoor.rowComments
