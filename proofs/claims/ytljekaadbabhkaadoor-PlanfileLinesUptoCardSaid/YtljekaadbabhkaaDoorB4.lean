/- stratagemlaw13.PlanfileLines returns true for every input of bulk at most 1048576. No condition beyond the card's own. -/
import Derived.Test.YtljekaadbabhkaaDoorB3
import Derived.Test.YtljekaadbabhkaaDoorB1
import Derived.Deep.Slices
import Derived.Deep.Fields
import Derived.ChangeSame
import Derived.SizedLaws
import Derived.Lib.SmallJoins
import Derived.Test.YtljekaadbabhkaaDoorRows
import Derived.Below
import Derived.OpenShut
import Derived.Carry
/- Plain: PlanfileLines is true. -/
namespace Go.Proofs.YtljekaadbabhkaaDoor.Am
open Go.RowKit

def okS (x : GStep) : Bool := goodF x && rngF true x
theorem len_one (x : GStep) : lenL [x] = 1 + lenS x := by simp [lenL]
theorem len_mem {l : List GStep} {x : GStep} (h : x ∈ l) : lenL [x] ≤ lenL l := by
  have h1 : lenS x ≤ (l.map lenS).sum := mem_sum (List.mem_map_of_mem h)
  have h2 := List.length_pos_of_mem h
  rw [len_one]
  unfold lenL
  omega
theorem fmt_one_ok {x : GStep} (h : okS x = true) : fmtF [x] true = (lineL true x, 0) := by
  unfold okS at h
  rw [Bool.and_eq_true] at h
  unfold fmtF
  rw [List.all_cons, List.all_cons, h.1, h.2]
  simp [textL]
theorem fmt_one_no {x : GStep} (h : okS x = false) : ∃ e : Int, e ≠ 0 ∧ (fmtF [x] true).2 = e := by
  unfold okS at h
  unfold fmtF
  rw [List.all_cons, List.all_cons]
  cases h1 : goodF x with
  | false => exact ⟨8, by decide, rfl⟩
  | true =>
    rw [h1] at h
    cases h2 : rngF true x with
    | false => exact ⟨1, by decide, rfl⟩
    | true => rw [h2] at h; cases h
theorem er_no {e : Int} (h : e ≠ 0) : erOf e = .no e := if_neg h
theorem linL1_eq (l : List GStep) (hl : lenL l ≤ 3000) : ∀ (k n : Nat), n ≤ l.length → l.length < k + n → M_l13_PlanfileLines_L1 l k (n : Int) = some (if (l.drop n).all okS then .inl () else .inr true)
  | 0, n, h1, h2 => by omega
  | k + 1, n, h1, h2 => by
    have h3 := (sm_of hl).1
    rw [M_l13_PlanfileLines_L1, sel_dec, List.length_map]
    by_cases hn : n < l.length
    · obtain ⟨x, hx, hd⟩ := drop_at hn
      have hm := len_mem (List.mem_of_getElem? hx)
      rw [if_pos (by omega), ix_at hx, format_eq [x] true (by omega), ob2_some, hd, List.all_cons]
      cases ho : okS x with
      | true =>
        rw [fmt_one_ok ho]
        show M_l13_PlanfileLines_L1 l k (IntKind.i64.wrap ((n : Int) + 1)) = _
        rw [w64s (by omega), linL1_eq l hl k (n + 1) hn (by omega), Bool.true_and]
      | false =>
        obtain ⟨e, e0, e1⟩ := fmt_one_no ho
        rw [e1, er_no e0]
        rfl
    · rw [if_neg (by omega), List.drop_eq_nil_of_le (by omega)]
      rfl
/-- the lines, one of them replaced -/
def rowsL (K : Nat) (y : List UInt8) : Nat → List GStep → List (List UInt8)
  | _, [] => []
  | n, x :: r => (if n = K then y else bodyL true x) :: rowsL K y (n + 1) r
def endL (Y : List (List UInt8)) : List UInt8 := (Y.map (· ++ [10])).flatten
theorem endL_cons (y : List UInt8) (Y : List (List UInt8)) : endL (y :: Y) = y ++ [10] ++ endL Y := by simp [endL]
theorem rows_len (K : Nat) (y : List UInt8) (hy : y.length ≤ 20) : ∀ (r : List GStep) (n : Nat), (endL (rowsL K y n r)).length ≤ (textL true r).length + (if n ≤ K then 21 else 0)
  | [], n => by simp [rowsL, endL]
  | x :: r, n => by
    have ih := rows_len K y hy r (n + 1)
    rw [rowsL, endL_cons, textL_cons, line_body, List.length_append, List.length_append, List.length_append, List.length_append]
    by_cases h : n = K
    · rw [if_pos h]
      rw [if_neg (by omega)] at ih
      rw [if_pos (by omega)]
      simp only [List.length_cons, List.length_nil]
      omega
    · rw [if_neg h]
      by_cases h2 : n ≤ K
      · rw [if_pos (by omega)] at ih
        rw [if_pos h2]
        omega
      · rw [if_neg (by omega)] at ih
        rw [if_neg h2]
        omega
theorem linL2_eq (l : List GStep) (hl : lenL l ≤ 3000) (a1 : Int) (y : ByteArray) (hy : y.size ≤ 20) (K : Nat) (hK : (IntKind.i64.wrap a1).tmod (l.length : Int) = (K : Int)) (hok : ∀ x ∈ l, okS x = true) : ∀ (k n : Nat) (v : List UInt8), n ≤ l.length → l.length < k + n → v.length + (endL (rowsL K (bl y) n (l.drop n))).length ≤ 100000000 →
    M_l13_PlanfileLines_L2 l a1 y k (ofB v) (n : Int) = some (.inl (ofB (v ++ endL (rowsL K (bl y) n (l.drop n)))))
  | 0, n, v, h1, h2, _ => by omega
  | k + 1, n, v, h1, h2, h4 => by
    have h3 := (sm_of hl).1
    rw [M_l13_PlanfileLines_L2, sel_dec, List.length_map]
    by_cases hn : n < l.length
    · obtain ⟨x, hx, hd⟩ := drop_at hn
      have hmm := List.mem_of_getElem? hx
      have hm := len_mem hmm
      rw [hd, rowsL, endL_cons] at h4 ⊢
      rw [List.length_append] at h4
      rw [if_pos (by omega), ix_at hx, format_eq [x] true (by omega), ob2_some, fmt_one_ok (hok x hmm)]
      show sel ((n : Int) == _) _ _ = _
      rw [hK, beq_int, sel_dec]
      by_cases hk : n = K
      · rw [if_pos hk] at h4 ⊢
        have e : y ++ (⟨#[10]⟩ : ByteArray) = ofB (bl y ++ [10]) := by rw [← ofB_app, ofB_bl]; rfl
        have hyl := bl_len y
        rw [List.length_append] at h4
        rw [if_pos (by omega), grd_t (by show _ + 1 ≤ _; omega), e, ofB_size, ofB_size, grd_t (by simp; omega), ofB_app, w64s (by omega), linL2_eq l hl a1 y hy K hK hok k (n + 1) _ hn (by omega) (by simp only [List.length_append]; omega)]
        simp only [List.append_assoc]
      · rw [if_neg hk] at h4 ⊢
        rw [← line_body] at h4 ⊢
        rw [if_neg (by omega)]
        show grd ((ofB v).size + (ofB (lineL true x)).size ≤ 9223372036854775807) (M_l13_PlanfileLines_L2 l a1 y k (ofB v ++ ofB (lineL true x)) (IntKind.i64.wrap ((n : Int) + 1))) = _
        rw [ofB_size, ofB_size, grd_t (by omega), ofB_app, w64s (by omega), linL2_eq l hl a1 y hy K hK hok k (n + 1) _ hn (by omega) (by simp only [List.length_append]; omega)]
        rw [← List.append_assoc]
    · rw [if_neg (by omega), List.drop_eq_nil_of_le (by omega)]
      simp [rowsL, endL]
theorem rows_parse (K : Nat) (y : List UInt8) (hs : skipF (trimF (ofB y)) = false) {c : Int} (hc : (stepF (trimF (ofB y)) true).2 = c) (h0 : c ≠ 0) (Z : List ByteArray) : ∀ (r : List GStep) (n : Nat) (acc : List GStep), n ≤ K → K < n + r.length → (∀ x ∈ r, okS x = true) → parseL true n acc ((rowsL K y n r).map ofB ++ Z) = ([], ((K + 1 : Nat) : Int), c)
  | [], n, acc, h1, h2, _ => by simp at h2; omega
  | x :: r, n, acc, h1, h2, h => by
    rw [rowsL, List.map_cons, List.cons_append, parseL]
    by_cases hk : n = K
    · rw [if_pos hk, if_neg (by rw [hs]; simp), hc, if_neg h0, hk]
    · have hx := h x (by simp)
      unfold okS at hx
      rw [Bool.and_eq_true] at hx
      obtain ⟨s1, s2⟩ := line_step (body_ok hx.1) hx.1 hx.2
      rw [if_neg hk, if_neg (by rw [s1]; simp), s2, if_pos rfl]
      exact rows_parse K y hs hc h0 Z r (n + 1) _ (by omega) (by rw [List.length_cons] at h2; omega) (fun z hz => h z (by simp [hz]))
theorem rows_free (K : Nat) (y : List UInt8) (hy : (10 : UInt8) ∉ y) : ∀ (r : List GStep) (n : Nat), (∀ x ∈ r, okS x = true) → ∀ z ∈ rowsL K y n r, (10 : UInt8) ∉ z
  | [], _, _, z, hz => by cases hz
  | x :: r, n, h, z, hz => by
    rw [rowsL] at hz
    rcases List.mem_cons.1 hz with e | hz
    · rw [e]
      split
      · exact hy
      · have hx := h x (by simp)
        unfold okS at hx
        rw [Bool.and_eq_true] at hx
        exact body_free hx.1 hx.2
    · exact rows_free K y hy r (n + 1) (fun w hw => h w (by simp [hw])) z hz
def badL : List ByteArray := [⟨#[109, 111, 118, 101, 32, 97]⟩, ⟨#[40, 41]⟩, ⟨#[49, 58, 32, 40, 41]⟩, ⟨#[40, 97, 41, 32, 49, 58]⟩, ⟨#[49, 32, 40, 97, 41]⟩, ⟨#[120, 58, 32, 40, 97, 41]⟩, ⟨#[49, 58, 32, 40, 97, 32, 40, 98, 41, 41]⟩, ⟨#[49, 58, 32, 40, 97]⟩, ⟨#[58, 32, 40, 97, 41]⟩, ⟨#[49, 58, 32, 40, 49, 41]⟩, ⟨#[49, 58, 32, 40, 97, 32, 58, 98, 41]⟩, ⟨#[49, 50, 51, 52, 53, 54, 55, 56, 57, 48, 58, 32, 40, 97, 41]⟩]
theorem bad_ok (j : Nat) (hj : j < 12) : ∃ y : ByteArray, badL[j]? = some y ∧ (10 : UInt8) ∉ bl y ∧ y.size ≤ 20 ∧ skipF (trimF y) = false ∧ (stepF (trimF y) true).2 = if j = 9 ∨ j = 10 then 8 else 2 := by
  match j, hj with
  | 0, _ => exact ⟨_, rfl, by decide, by decide, by kernel_rfl, by kernel_rfl⟩
  | 1, _ => exact ⟨_, rfl, by decide, by decide, by kernel_rfl, by kernel_rfl⟩
  | 2, _ => exact ⟨_, rfl, by decide, by decide, by kernel_rfl, by kernel_rfl⟩
  | 3, _ => exact ⟨_, rfl, by decide, by decide, by kernel_rfl, by kernel_rfl⟩
  | 4, _ => exact ⟨_, rfl, by decide, by decide, by kernel_rfl, by kernel_rfl⟩
  | 5, _ => exact ⟨_, rfl, by decide, by decide, by kernel_rfl, by kernel_rfl⟩
  | 6, _ => exact ⟨_, rfl, by decide, by decide, by kernel_rfl, by kernel_rfl⟩
  | 7, _ => exact ⟨_, rfl, by decide, by decide, by kernel_rfl, by kernel_rfl⟩
  | 8, _ => exact ⟨_, rfl, by decide, by decide, by kernel_rfl, by kernel_rfl⟩
  | 9, _ => exact ⟨_, rfl, by decide, by decide, by kernel_rfl, by kernel_rfl⟩
  | 10, _ => exact ⟨_, rfl, by decide, by decide, by kernel_rfl, by kernel_rfl⟩
  | 11, _ => exact ⟨_, rfl, by decide, by decide, by kernel_rfl, by kernel_rfl⟩
theorem is_eq (e z : Int) (he : e ≠ 0) : M_b_Is (erOf e) z = some (e == z) := by
  rw [er_no he]
  rfl
theorem lines_true (l : List GStep) (a1 a2 : Int) (h : lenL l ≤ 4000000000000000000) (h1 : 0 ≤ a1 ∧ a1 ≤ 255) (h2 : 0 ≤ a2 ∧ a2 ≤ 255) : M_l13_PlanfileLines 100000 l a1 a2 = some true := by
  rw [M_l13_PlanfileLines, long_eq l h, ob1_some, awake_eq, ob1_some, ob1_some]
  by_cases hl : lenL l > 3000
  · rw [decide_eq_true hl]
    rfl
  · have hl' : lenL l ≤ 3000 := by omega
    have hsm := (sm_of hl').1
    rw [decide_eq_false hl, sel_ff, List.length_map]
    by_cases hz : l.length = 0
    · rw [hz]
      rfl
    · have e1 := linL1_eq l hl' (l.length + 1) 0 (Nat.zero_le _) (by omega)
      rw [List.drop_zero] at e1
      rw [beq_int, decide_eq_false (by omega), sel_ff, sel_not, sel_tt, ob1_some, osum_inl, Int.toNat_natCast, show M_l13_PlanfileLines_L1 l (l.length + 1) 0 = _ from e1, ob1_some]
      cases hall : l.all okS with
      | false => rfl
      | true =>
        have hok : ∀ x ∈ l, okS x = true := List.all_eq_true.1 hall
        have hg : l.all goodF = true := by
          rw [List.all_eq_true]
          intro x hx
          have := hok x hx
          unfold okS at this
          rw [Bool.and_eq_true] at this
          exact this.1
        have hr : l.all (rngF true) = true := by
          rw [List.all_eq_true]
          intro x hx
          have := hok x hx
          unfold okS at this
          rw [Bool.and_eq_true] at this
          exact this.2
        have ht := text_small hl' hg hr
        have hw1 : IntKind.i64.wrap a1 = a1 := w64 (by omega) (by omega)
        have hw2 : IntKind.i64.wrap a2 = a2 := w64 (by omega) (by omega)
        obtain ⟨K, hK⟩ : ∃ K : Nat, a1.tmod (l.length : Int) = (K : Int) := ⟨(a1.tmod (l.length : Int)).toNat, by have := Int.tmod_nonneg (l.length : Int) h1.1; omega⟩
        have hKl : K < l.length := by
          have := Int.tmod_lt_of_pos a1 (show (0 : Int) < (l.length : Int) by omega)
          omega
        obtain ⟨J, hJ⟩ : ∃ J : Nat, a2.tmod 12 = (J : Int) := ⟨(a2.tmod 12).toNat, by have := Int.tmod_nonneg 12 h2.1; omega⟩
        have hJl : J < 12 := by
          have := Int.tmod_lt_of_pos a2 (show (0 : Int) < 12 by omega)
          omega
        obtain ⟨y, y1, y2, y3, y4, y5⟩ := bad_ok J hJl
        obtain ⟨c, hc⟩ : ∃ c : Int, (if J = 9 ∨ J = 10 then 8 else 2) = c := ⟨_, rfl⟩
        rw [hc] at y5
        have hc0 : c ≠ 0 := by rw [← hc]; split <;> decide
        have hrl := rows_len K (bl y) (by rw [bl_len]; exact y3) l 0
        rw [if_pos (Nat.zero_le _)] at hrl
        have hyb : ofB (bl y) = y := ofB_bl y
        have e2 := linL2_eq l hl' a1 y y3 K (by rw [hw1]; exact hK) hok (l.length + 1) 0 [] (Nat.zero_le _) (by omega) (by rw [List.drop_zero]; simp; omega)
        rw [List.drop_zero, List.nil_append] at e2
        have hpf : parseF (ofB (endL (rowsL K (bl y) 0 l))) true = ([], ((K + 1 : Nat) : Int), c) := by
          have hsp : splitL 10 (endL (rowsL K (bl y) 0 l)) = rowsL K (bl y) 0 l ++ [[]] := by
            have := split_lines [] (rowsL K (bl y) 0 l) (rows_free K (bl y) y2 l 0 hok)
            rw [List.append_nil] at this
            exact this
          unfold parseF
          rw [ofB_size, if_neg (by omega), bl_ofB, hsp, List.map_append]
          exact rows_parse K (bl y) (by rw [hyb]; exact y4) (by rw [hyb]; exact y5) hc0 _ l 0 [] (Nat.zero_le _) (by omega) hok
        have y1' : ([(⟨#[109, 111, 118, 101, 32, 97]⟩ : ByteArray), (⟨#[40, 41]⟩ : ByteArray), (⟨#[49, 58, 32, 40, 41]⟩ : ByteArray), (⟨#[40, 97, 41, 32, 49, 58]⟩ : ByteArray), (⟨#[49, 32, 40, 97, 41]⟩ : ByteArray), (⟨#[120, 58, 32, 40, 97, 41]⟩ : ByteArray), (⟨#[49, 58, 32, 40, 97, 32, 40, 98, 41, 41]⟩ : ByteArray), (⟨#[49, 58, 32, 40, 97]⟩ : ByteArray), (⟨#[58, 32, 40, 97, 41]⟩ : ByteArray), (⟨#[49, 58, 32, 40, 49, 41]⟩ : ByteArray), (⟨#[49, 58, 32, 40, 97, 32, 58, 98, 41]⟩ : ByteArray), (⟨#[49, 50, 51, 52, 53, 54, 55, 56, 57, 48, 58, 32, 40, 97, 41]⟩ : ByteArray)])[J]? = some y := y1
        rw [if_pos rfl, osum_inl, grd_t (by omega), hw2, hJ, Int.toNat_natCast, ixn_at y1', grd_t (by decide), grd_t (by omega), grd_t (by omega), show M_l13_PlanfileLines_L2 l a1 y (l.length + 1) (⟨#[]⟩ : ByteArray) 0 = _ from e2, ob1_some, osum_inl, parse_eq _ _ (by rw [ofB_size]; omega), hpf, ob3_some, hw1, hK, w64s (by omega)]
        simp only [List.map_nil, List.length_nil, bne_self_eq_false, sel_ff]
        rw [show ((((0 : Nat) : Int)) != 0) = false from rfl, sel_ff, ob1_some, osum_inl, is_eq c 8 hc0, is_eq c 2 hc0, ob1_some, ob1_some, beq_int, sel_dec, beq_int, sel_dec]
        have hnm : M_r08_Name 100000 (⟨#[58, 98]⟩ : ByteArray) = some false := by
          rw [rname_eq _ (by decide) (by decide) (by decide)]
          congr 1
        rw [hnm, ob1_some]
        by_cases hj : J = 9 ∨ J = 10
        · rw [if_pos hj] at hc
          subst hc
          rcases hj with rfl | rfl
          · rfl
          · rfl
        · rw [if_neg hj] at hc
          subst hc
          rw [if_neg (by omega), beq_int, sel_dec, if_neg (by omega)]
          rfl
end Go.Proofs.YtljekaadbabhkaaDoor.Am
/- Opening arguments: slices of numbers, of facts, of nogoods, a certificate. -/
namespace Go.Proofs.YtljekaadbabhkaaDoor
open Go.RowKit Go.ChangeShapes Go.WideShapes Go.Deep Go.Joins

section
variable {H : Type} {enc : TypeId × Value → H} {P : Program} {w : World} {base : Nat} {spare : Nat → Bool} {held : Bool}

/-- within the form's reach -/
def Sized (P : Program) (t : TypeId) (d : DataW H) : Prop := ∀ n ∈ d.weights P t, n ≤ reachBytes
theorem sized_arg {ts : List TypeId} {ds : List (DataW H)} (h : (DataW.weightsEach P ts ds).all (· ≤ reachBytes) = true) {j : Nat} {t : TypeId} {d : DataW H} (ht : ts[j]? = some t) (hd : ds[j]? = some d) : Sized P t d :=
  fun n hn => of_decide_eq_true (List.all_eq_true.1 h n (DataW.weights_mem_each ht hd n hn))
theorem sized_field {t : TypeId} {fs : Array Field} {parts : List (DataW H)} (h : Sized P t (.agg parts)) (hu : P.underlying t = some (.struct fs)) {j : Nat} {f : Field} {d : DataW H} (hf : fs[j]? = some f) (hd : parts[j]? = some d) : Sized P f.type d :=
  fun n hn => h n (by
    simp only [DataW.weights, hu]
    exact DataW.weights_mem_each (j := j) (by simp [List.getElem?_map, hf]) hd n hn)
theorem weightsAll_mem {e : TypeId} : ∀ {l : List (DataW H)} {d : DataW H}, d ∈ l → ∀ n ∈ d.weights P e, n ∈ DataW.weightsAll P e l
  | x :: l, d, hd, n, hn => by
    simp only [DataW.weightsAll, List.mem_append]
    rcases List.mem_cons.1 hd with rfl | h
    · exact Or.inl hn
    · exact Or.inr (weightsAll_mem h n hn)
theorem sized_elem {t e : TypeId} {elems sp : List (DataW H)} (h : Sized P t (.slice elems sp)) (hu : P.underlying t = some (.slice e)) {d : DataW H} (hd : d ∈ elems) : Sized P e d :=
  fun n hn => h n (by
    simp only [DataW.weights, hu, List.mem_cons, List.mem_append]
    exact Or.inr (Or.inl (weightsAll_mem hd n hn)))
theorem sized_len {t e : TypeId} {elems sp : List (DataW H)} (h : Sized P t (.slice elems sp)) (hu : P.underlying t = some (.slice e)) : elems.length * P.bytesOf e ≤ 140737488355328 := by
  have h1 := h ((elems.length + sp.length) * P.bytesOf e) (by simp [DataW.weights, hu])
  have h2 : elems.length * P.bytesOf e ≤ (elems.length + sp.length) * P.bytesOf e := Nat.mul_le_mul_right _ (by omega)
  have h3 : reachBytes ≤ 140737488355328 := by decide
  omega

end

theorem spot_of_cell {w : World} {p : Addr} {v : Value} (h : w.cell? p = some v) : p.spot = none := by
  unfold World.cell? at h
  split at h
  · split at h
    · cases h
    · rename_i hs; simpa using hs
  · cases h
theorem addr_of_cell {w : World} {a : Addr} {k : Nat} {v : Value} (h0 : ∃ u, w.cell? (a.add 0) = some u) (h : w.cell? (a.add k) = some v) : a = ⟨a.block, a.off, none⟩ ∧ w.cell? ⟨a.block, a.off + k, none⟩ = some v := by
  obtain ⟨u, hu⟩ := h0
  have hs := spot_of_cell hu
  obtain ⟨b, off, sp⟩ := a
  simp [Addr.add] at hs
  subst hs
  refine ⟨rfl, ?_⟩
  rw [← h]
  congr 1
  unfold Addr.add
  split
  · subst k; rfl
  · rfl

theorem list_of {α : Type} (n : Nat) (R : Nat → α → Prop) (h : ∀ i, i < n → ∃ x, R i x) : ∃ l : List α, l.length = n ∧ ∀ k x, l[k]? = some x → R k x := by
  induction n with
  | zero => exact ⟨[], rfl, fun k x hx => by simp at hx⟩
  | succ n ih =>
    obtain ⟨l, hl, hr⟩ := ih (fun i hi => h i (by omega))
    obtain ⟨x, hx⟩ := h n (by omega)
    refine ⟨l ++ [x], by simp [hl], fun k y hy => ?_⟩
    by_cases hk : k < n
    · rw [List.getElem?_append_left (by omega)] at hy
      exact hr k y hy
    · rw [List.getElem?_append_right (by omega)] at hy
      have hk' : k - l.length = 0 := by
        have := (List.getElem?_eq_some_iff.1 hy).1
        simp at this
        omega
      rw [hk'] at hy
      simp at hy
      subst hy
      obtain rfl : k = n := by omega
      exact hx

end Go.Proofs.YtljekaadbabhkaaDoor
/- Opening arguments for the abstract machine: readers that compose. -/
namespace Go.Proofs.YtljekaadbabhkaaDoor.Am
open Go.RowKit Go.ChangeShapes Go.WideShapes Go.Deep Go.Joins

/-- nothing is owned at the start -/
abbrev mZ : MM := mO (fun _ => False)
theorem noZ (b : Nat) : ¬ Owned nov mZ b := fun h => owned_nov.1 h

section
variable {H : Type} {enc : TypeId × Value → H} {P : Program} {w : World} {base : Nat} {spare : Nat → Bool} {held : Bool}
/-- cells that stand for the values -/
def CellsRv (w : World) (es : List AV) (cs : List Value) : Prop := es.length = cs.length ∧ (∀ (j : Nat) (y : AV) (u : Value), es[j]? = some y → cs[j]? = some u → RV w nov mZ y u ∧ u.oneCell' = true) ∧ ∀ y ∈ es, Fr y
theorem cells_one1 {y : AV} {u : Value} (h : RV w nov mZ y u) (h1 : u.oneCell' = true) (hf : Fr y) : CellsRv w [y] [u] := by
  refine ⟨rfl, fun j z v hz hv => ?_, fun z hz => by simp at hz; subst hz; exact hf⟩
  cases j with
  | zero => simp at hz hv; subst hz hv; exact ⟨h, h1⟩
  | succ j => simp at hz
theorem cells_append {a b : List AV} {xs ys : List Value} (h1 : CellsRv w a xs) (h2 : CellsRv w b ys) : CellsRv w (a ++ b) (xs ++ ys) := by
  refine ⟨by rw [List.length_append, List.length_append, h1.1, h2.1], fun j y u hy hu => ?_, fun y hy => ?_⟩
  · rcases Nat.lt_or_ge j a.length with hlt | hge
    · rw [List.getElem?_append_left hlt] at hy
      rw [List.getElem?_append_left (by rw [← h1.1]; exact hlt)] at hu
      exact h1.2.1 j y u hy hu
    · rw [List.getElem?_append_right hge] at hy
      rw [List.getElem?_append_right (by rw [← h1.1]; exact hge)] at hu
      rw [h1.1] at hy
      exact h2.2.1 _ y u hy hu
  · rcases List.mem_append.1 hy with h | h
    · exact h1.2.2 y h
    · exact h2.2.2 y h
theorem one_rv {y : AV} {u : Value} (h : CellsRv w [y] [u]) : RV w nov mZ y u := (h.2.1 0 y u rfl rfl).1
end
end Go.Proofs.YtljekaadbabhkaaDoor.Am
/- Opening arguments for the abstract machine, with a bound on their bulk. -/
namespace Go.Proofs.YtljekaadbabhkaaDoor.Am
open Go.RowKit Go.ChangeShapes Go.WideShapes Go.Deep Go.Joins

theorem bulk_one {H : Type} (d : DataW H) : 1 ≤ Rows.uptoBulk d := by
  cases d with
  | lit l => cases l <;> simp [Rows.uptoBulk]
  | nil => simp [Rows.uptoBulk]
  | ptr d => simp [Rows.uptoBulk]
  | slice elems spare => simp [Rows.uptoBulk]
  | agg parts => simp [Rows.uptoBulk]
  | iface t d => simp [Rows.uptoBulk]
  | map entries => simp [Rows.uptoBulk]
  | held h => simp [Rows.uptoBulk]
theorem sum_bulk {H : Type} {α : Type} {wt : α → Nat} : ∀ (l : List α) (e : List (DataW H)), l.length = e.length → (∀ (k : Nat) (z : α) (d : DataW H), l[k]? = some z → e[k]? = some d → wt z ≤ Rows.uptoBulk d) → (l.map wt).sum ≤ Rows.uptoBulkAll e
  | [], [], _, _ => by simp
  | z :: l, d :: e, hl, h => by
    have h0 := h 0 z d rfl rfl
    have h1 := sum_bulk l e (by simpa using hl) (fun k y c hy hc => h (k + 1) y c (by simpa using hy) (by simpa using hc))
    simp only [List.map_cons, List.sum_cons, Rows.uptoBulkAll]
    omega
  | [], _ :: _, hl, _ => by simp at hl
  | _ :: _, [], hl, _ => by simp at hl
section
variable {H : Type} {enc : TypeId × Value → H} {P : Program} {w : World} {base : Nat} {spare : Nat → Bool} {held : Bool}
/-- data of type t read as an α, of a weight -/
def OpensB (enc : TypeId × Value → H) (P : Program) (w : World) (base : Nat) (spare : Nat → Bool) (held : Bool) (t : TypeId) {α : Type} (en : α → List AV) (R : α → Prop) (wt : α → Nat) : Prop :=
  ∀ (fuel : Nat) (cs : List Value) (x : DataW H × List MemPlace), DataW.trod enc P w base spare held fuel t cs = some x → Sized P t x.1 → ∃ a, R a ∧ wt a ≤ Rows.uptoBulk x.1 ∧ CellsRv w (en a) cs
theorem opensB_int {t : TypeId} {k : IntKind} (ht : P.underlying t = some (.int k)) : OpensB enc P w base spare held t (fun z : Int => [.c (.int k z)]) (fun z => (Lit.int k z).wf = true) (fun _ => 1) := by
  intro fuel cs x h _
  obtain ⟨z, rfl, _, wz⟩ := DataW.trod_int ht h
  exact ⟨z, wz, bulk_one _, cells_one1 (.c _) rfl (.c _)⟩
theorem opensB_str {t : TypeId} (ht : P.underlying t = some .string) : OpensB enc P w base spare held t (fun s : ByteArray => [.c (.string s)]) (fun s => s.size ≤ 140737488355328) (fun s => s.size + 1) := by
  intro fuel cs x h hsz
  obtain ⟨s, rfl, rfl, -⟩ := DataW.trod_string ht h
  have e : s.data.toList.length = s.size := by rw [Array.length_toList]; rfl
  refine ⟨s, ?_, ?_, cells_one1 (.c _) rfl (.c _)⟩
  · have h1 : s.data.toList.length ≤ 140737488355328 := Nat.le_trans (hsz s.data.toList.length (List.mem_singleton.2 rfl)) (by decide)
    show s.size ≤ _
    omega
  · simp only [Rows.uptoBulk, e]
    omega
theorem opensB_slice {t e : TypeId} {α : Type} {en : α → List AV} {R : α → Prop} {wt : α → Nat} {sz by_ : Nat} (ht : P.underlying t = some (.slice e)) (hc : P.cellsOf e = sz) (hb : P.bytesOf e = by_) (hby : 0 < by_) (hsz : 0 < sz) (he : OpensB enc P w base spare held e en R wt) :
    OpensB enc P w base spare held t (fun l : List α => [.sl sz (l.map en)]) (fun l => l.length * by_ ≤ 140737488355328 ∧ ∀ x ∈ l, R x) (fun l => (l.map wt).sum + 1) := by
  intro fuel cs x h hs
  rcases open_slice ht h with ⟨rfl, _⟩ | ⟨a, len, cap, m, n, D, Pl, rfl, _, hl, hm, hmm, rfl, hi⟩
  · refine ⟨[], ⟨by simp, by simp⟩, by simpa using bulk_one _, cells_one1 ?_ rfl (.sl (fun e he => by cases he))⟩
    exact RV.sl (l := []) (b := 0) (off := 0) (f := fun _ _ => undef) (fun h => absurd rfl h) (Nat.zero_le _) (by simp) (fun k e h => by simp at h) (fun k j e x h => by simp at h) (fun k j e x h => by simp at h) (fun e he => by cases he)
  · have hlen := sized_len hs ht
    rw [hb] at hlen
    simp only [List.length_map, List.length_range] at hlen
    have hml : len ≤ m := by rw [hmm]; split <;> omega
    have hcell : ∀ i, i < len → ∃ z : α, (R z ∧ wt z ≤ Rows.uptoBulk (D i)) ∧ ∃ cs', CellsRv w (en z) cs' ∧ cs'.length = sz ∧ ∀ j, j < sz → w.cell? (a.add (i * sz + j)) = cs'[j]? := by
      intro i hi'
      obtain ⟨cs', hcc, ht'⟩ := hi i (by omega)
      rw [hc] at hcc
      obtain ⟨z, hz, hwz, hcr⟩ := he n cs' _ ht' (sized_elem hs ht (List.mem_map.2 ⟨i, by simpa using hi', rfl⟩))
      obtain ⟨_, hcl', hat⟩ := World.cells?_some hcc
      exact ⟨z, ⟨hz, hwz⟩, cs', hcr, hcl', fun j hj => by rw [← hat j hj, Go.Deep.add_add]⟩
    obtain ⟨l, hl', hat⟩ := list_of len _ hcell
    have hR : ∀ x ∈ l, R x := fun x hx => by
      obtain ⟨k, hk⟩ := List.getElem?_of_mem hx
      exact (hat k x hk).1.1
    have hfr : FrL (l.map en) := by
      intro e he
      obtain ⟨x, hx, rfl⟩ := List.mem_map.1 he
      obtain ⟨k, hk⟩ := List.getElem?_of_mem hx
      obtain ⟨_, cs', hcr, _⟩ := hat k x hk
      exact hcr.2.2
    refine ⟨l, ⟨by rw [hl']; exact hlen, hR⟩, ?_, cells_one1 ?_ rfl (.sl hfr)⟩
    · have hb1 := sum_bulk (wt := wt) l ((List.range len).map D) (by simp [hl']) (fun k z d hz hd => by
        rw [List.getElem?_map] at hd
        have hk : k < len := by rw [← hl']; exact (List.getElem?_eq_some_iff.1 hz).1
        rw [List.getElem?_range hk] at hd
        injection hd with hd
        rw [← hd]
        exact (hat k z hz).1.2)
      simp only [Rows.uptoBulk]
      omega
    have key : ∀ (k j : Nat) (e : List AV) (y : AV), (l.map en)[k]? = some e → e[j]? = some y → e.length = sz ∧ ∃ u, w.cell? ⟨a.block, a.off + (k * sz + j), none⟩ = some u ∧ u.oneCell' = true ∧ RV w nov mZ y u ∧ a = ⟨a.block, a.off, none⟩ ∧ a.block < w.heap.size := by
      intro k j e y hk hj
      rw [List.getElem?_map] at hk
      cases hx : l[k]? with
      | none => rw [hx] at hk; cases hk
      | some z =>
        rw [hx] at hk
        simp at hk
        subst hk
        obtain ⟨_, cs', ⟨c1, c2, _⟩, c4, c5⟩ := hat k z hx
        have hjl : j < sz := by rw [← c4, ← c1]; exact (List.getElem?_eq_some_iff.1 hj).1
        have hcj := c5 j hjl
        have hget : cs'[j]? = some (cs'[j]'(by omega)) := List.getElem?_eq_getElem _
        rw [hget] at hcj
        obtain ⟨r1, r2⟩ := c2 j y _ hj hget
        have h0 : 0 < len := by have := (List.getElem?_eq_some_iff.1 hx).1; omega
        obtain ⟨_, _, cs0, ⟨_, _, _⟩, d4, d5⟩ := hcell 0 h0
        have hz0 := d5 0 hsz
        rw [List.getElem?_eq_getElem (by omega)] at hz0
        obtain ⟨e1, e2⟩ := addr_of_cell ⟨_, by simpa using hz0⟩ hcj
        exact ⟨by rw [c1, c4], _, e2, r2, r1, e1, lt_of_cell (p := ⟨a.block, a.off + (k * sz + j), none⟩) e2⟩
    have hlen2 : (l.map en).length = len := by simp [hl']
    have := RV.sl (w := w) (vs := nov) (m := mZ) (sz := sz) (l := l.map en) (A := some a) (cap := cap) (b := a.block) (off := a.off) (f := fun k j => (w.cell? ⟨a.block, a.off + (k * sz + j), none⟩).getD undef)
      (fun hne => ?_) (by omega) (by rw [hlen2]; exact Nat.le_trans (Nat.le_mul_of_pos_right _ hby) hlen) (fun k e hk => ?_) (fun k j e y hk hj => ?_) (fun k j e y hk hj => ?_) hfr
    · rw [hlen2] at this
      exact this
    · have h0 : 0 < (l.map en).length := List.length_pos_iff.2 hne
      have hk := List.getElem?_eq_getElem h0
      obtain ⟨x0, hx0, hx0'⟩ : ∃ x0, l[0]? = some x0 ∧ (l.map en)[0] = en x0 := by
        have h1 : 0 < l.length := by simpa using h0
        exact ⟨l[0], List.getElem?_eq_getElem h1, by simp⟩
      obtain ⟨_, cs', ⟨c1, _, _⟩, c4, _⟩ := hat 0 x0 hx0
      have hel : 0 < ((l.map en)[0]).length := by rw [hx0', c1, c4]; exact hsz
      obtain ⟨_, _, _, _, _, q1, q2⟩ := key 0 0 _ _ hk (List.getElem?_eq_getElem hel)
      exact ⟨by rw [← q1], noZ _, q2⟩
    · rw [List.getElem?_map] at hk
      cases hx : l[k]? with
      | none => rw [hx] at hk; cases hk
      | some z =>
        rw [hx] at hk
        simp at hk
        subst hk
        obtain ⟨_, cs', ⟨c1, _, _⟩, c4, _⟩ := hat k z hx
        rw [c1, c4]
    · obtain ⟨_, u, q1, q2, _⟩ := key k j e y hk hj
      rw [q1]
      exact ⟨rfl, q2⟩
    · obtain ⟨_, u, q1, _, q3, _⟩ := key k j e y hk hj
      rw [q1]
      exact q3

/-- fields from one on -/
def OpensFB (enc : TypeId × Value → H) (P : Program) (w : World) (base : Nat) (spare : Nat → Bool) (held : Bool) (fs : List Field) (off tot : Nat) {α : Type} (en : α → List AV) (R : α → Prop) (wt : α → Nat) : Prop :=
  ∀ (fuel : Nat) (cs : List Value) (xs : List (DataW H × List MemPlace)), cs.length = tot → xs.length = fs.length → (∀ (i : Nat) (f : Field), fs[i]? = some f → DataW.trod enc P w base spare held fuel f.type ((cs.drop f.offset).take (P.cellsOf f.type)) = xs[i]?) →
    (∀ (i : Nat) (f : Field) (x : DataW H × List MemPlace), fs[i]? = some f → xs[i]? = some x → Sized P f.type x.1) → ∃ a, R a ∧ wt a ≤ Rows.uptoBulkAll (xs.map (·.1)) ∧ CellsRv w (en a) (cs.drop off)
theorem opensFB_last {f : Field} {off tot : Nat} {α : Type} {en : α → List AV} {R : α → Prop} {wt : α → Nat} (ho : f.offset = off) (htot : off + P.cellsOf f.type = tot) (h : OpensB enc P w base spare held f.type en R wt) : OpensFB enc P w base spare held [f] off tot en R wt := by
  intro fuel cs xs hcl hx ht hs
  obtain ⟨x, rfl⟩ := List.length_eq_one_iff.1 hx
  have h1 := ht 0 f rfl
  obtain ⟨a, ha, hw, hc⟩ := h fuel _ x h1 (hs 0 f x rfl rfl)
  refine ⟨a, ha, by simpa [Rows.uptoBulkAll] using hw, ?_⟩
  rw [ho, List.take_of_length_le (by simp; omega)] at hc
  exact hc
theorem opensFB_cons {f : Field} {fs : List Field} {off off' tot : Nat} {α β : Type} {en : α → List AV} {R : α → Prop} {wt : α → Nat} {en' : β → List AV} {R' : β → Prop} {wt' : β → Nat} (ho : f.offset = off) (hoff : off + P.cellsOf f.type = off') (h : OpensB enc P w base spare held f.type en R wt) (h' : OpensFB enc P w base spare held fs off' tot en' R' wt') :
    OpensFB enc P w base spare held (f :: fs) off tot (fun p : α × β => en p.1 ++ en' p.2) (fun p => R p.1 ∧ R' p.2) (fun p => wt p.1 + wt' p.2) := by
  intro fuel cs xs hcl hx ht hs
  cases xs with
  | nil => simp at hx
  | cons x xs =>
    obtain ⟨a, ha, hw, hc⟩ := h fuel _ x (ht 0 f rfl) (hs 0 f x rfl rfl)
    obtain ⟨b, hb, hw', hc'⟩ := h' fuel cs xs hcl (by simpa using hx) (fun i g hg => by simpa using ht (i + 1) g (by simpa using hg)) (fun i g y hg hy => hs (i + 1) g y (by simpa using hg) (by simpa using hy))
    refine ⟨(a, b), ⟨ha, hb⟩, by simp only [List.map_cons, Rows.uptoBulkAll]; omega, ?_⟩
    rw [ho] at hc
    have : cs.drop off = (cs.drop off).take (P.cellsOf f.type) ++ cs.drop off' := by
      rw [← hoff, ← List.drop_drop, List.take_append_drop]
    rw [this]
    exact cells_append hc hc'
theorem opensB_struct {t : TypeId} {fs : Array Field} {α : Type} {en : α → List AV} {R : α → Prop} {wt : α → Nat} (ht : P.underlying t = some (.struct fs)) (h : OpensFB enc P w base spare held fs.toList 0 (P.cellsOf t) en R wt) : OpensB enc P w base spare held t en R wt := by
  intro fuel cs x hx hs
  obtain ⟨xs, n, _, rfl, hcl, hxl, hf⟩ := DataW.trod_struct ht hx
  obtain ⟨a, ha, hw, hc⟩ := h n cs xs hcl (by simpa using hxl) (fun i f hi => hf i f (by simpa using hi)) (fun i f y hi hy => sized_field hs ht (j := i) (by simpa using hi) (by simp [List.getElem?_map, hy]))
  exact ⟨a, ha, by simp only [Rows.uptoBulk]; omega, by simpa using hc⟩
theorem opensB_conv {t : TypeId} {α β : Type} {en : α → List AV} {en2 : β → List AV} {R : α → Prop} {R2 : β → Prop} {wt : α → Nat} {wt2 : β → Nat} (f : α → β) (h : OpensB enc P w base spare held t en R wt) (he : ∀ a, en2 (f a) = en a) (hR : ∀ a, R a → R2 (f a)) (hw : ∀ a, wt2 (f a) ≤ wt a) : OpensB enc P w base spare held t en2 R2 wt2 := by
  intro fuel cs x hx hs
  obtain ⟨a, ha, hwa, hc⟩ := h fuel cs x hx hs
  exact ⟨f a, hR a ha, Nat.le_trans (hw a) hwa, by rw [he]; exact hc⟩
/-- an argument of one cell -/
theorem arg_oneB {t : TypeId} {α : Type} {y : α → AV} {R : α → Prop} {wt : α → Nat} {v : Value} {d : DataW H} {p : List MemPlace} (hv : v.cells = #[v]) (ho : OpensB enc P w base spare held t (fun a => [y a]) R wt) (h : DataW.Trod enc P w base spare held t v d p) (hs : Sized P t d) :
    ∃ a, R a ∧ wt a ≤ Rows.uptoBulk d ∧ RV w nov mZ (y a) v := by
  obtain ⟨fuel, hf⟩ := h
  rw [hv] at hf
  obtain ⟨a, ha, hw, hc⟩ := ho fuel _ _ hf hs
  exact ⟨a, ha, hw, one_rv hc⟩
end
end Go.Proofs.YtljekaadbabhkaaDoor.Am
/- From a walk to a law's row: the arguments read behind the call as before, the result is true. -/
namespace Go.Proofs.YtljekaadbabhkaaDoor
open Go.RowKit Go.WideShapes Go.ChangeShapes Go.ChangeAt
section
variable {H : Type} {enc : TypeId × Value → H} {P : Program}
theorem post_of_below {f : Func} {s : ChangeSpec} {apart fresh handsOn again : Bool} {W W' : World} {args : Array Value} {v : Value} {ds gs : List (DataW H)} {before pa pv : List MemPlace}
    (hW : DataW.Whole enc P f.params.toList s.vars apart W args.toList ds gs before)
    (hres : ∀ (b : Nat) (sp : Nat → Bool) (hd : Bool), DataW.TrodAll enc P W' b sp hd f.resultTypes.toList (v.resultList f.resultTypes.size) (s.fn H (ds ++ gs)).results [])
    (hargs : ∀ sp : Nat → Bool, (∀ p ∈ before, sp p.block = true) → DataW.TrodAll enc P W' 0 sp true f.params.toList args.toList (s.fn H (ds ++ gs)).args pa)
    (hvars : ∀ sp : Nat → Bool, (∀ p ∈ before, sp p.block = true) → DataW.TrodVars enc P W' sp s.vars (s.fn H (ds ++ gs)).vars pv)
    (hps : before = pa ++ pv) (hb : Below W.heap.size W W')
    (hok : ∀ (j : Nat) (t : TypeId) (r : Value), f.resultTypes[j]? = some t → (v.resultList f.resultTypes.size)[j]? = some r → Value.okWide P W' .any 0 t r) :
    s.post enc P f apart fresh handsOn again W args v W' := by
  have hlt : ∀ p ∈ before, p.block < W.heap.size := fun p hp => hW.lt p hp
  have hold : ∀ p ∈ before, (fun b => decide (b < W.heap.size)) p.block = true := fun p hp => by simpa using hlt p hp
  refine ⟨ds, gs, before, [], pa, pv, hW, hres _ _ _, hargs _ hold, hvars _ hold, World.keptBut_mono (fun p hp => ⟨hp, ?_⟩) (hb.frame (· ∈ before)), fun _ => ?_⟩
  · rw [hps, List.mem_append] at hp
    exact Or.inr hp
  · obtain ⟨_, _, _, _, _, hz, hn⟩ := hW
    refine ⟨hok, _, _, ([] ++ pa) ++ pv, ⟨[] ++ pa, pv, trodAll_append (hargs _ (fun _ _ => rfl)) (hres _ _ _), hvars _ (fun _ _ => rfl), rfl, ?_, ?_⟩, ?_⟩
    · intro b off hp
      have hin : MemPlace.cell b off ∈ before := by rw [hps]; simpa using hp
      rw [hb.frozen (hlt _ hin)]
      exact hz b off hin
    · intro ha
      have := hn ha
      rw [hps] at this
      simpa using this
    · intro p hp _
      rw [hps]
      simpa using hp

theorem trodAll_keep (hl : laidOutB P = true) {W W' : World} (hb : Below W.heap.size W W') (sp : Nat → Bool) (ts : List TypeId) : ∀ (vs : List Value) (ds : List (DataW H)) (ps : List MemPlace), (∀ t ∈ ts, P.readableRec t = true ∧ t < P.types.size) →
    DataW.TrodAll enc P W 0 (fun _ => true) true ts vs ds ps → (∀ x ∈ ps, x.block < W.heap.size) → (∀ x ∈ ps, sp x.block = true) → DataW.TrodAll enc P W' 0 sp true ts vs ds ps := by
  induction ts with
  | nil =>
    intro vs ds ps _ h _ _
    obtain ⟨rfl, rfl, rfl⟩ := trodAll_nil h
    exact trodAll_mk0
  | cons t ts ih =>
    intro vs ds ps hts h hlt hsp
    obtain ⟨v0, vs0, d0, ds0, p0, q0, rfl, rfl, rfl, h0, r0⟩ := trodAll_cons h
    obtain ⟨hr, hrow⟩ := hts t (by simp)
    exact trodAll_cons_mk (WideElems.Trod_stays hl hr hrow h0 (fun x hx => hb.same (hlt x (by simp [hx]))) (fun x hx => hsp x (by simp [hx])))
      (ih _ _ _ (fun t ht => hts t (by simp [ht])) r0 (fun x hx => hlt x (by simp [hx])) (fun x hx => hsp x (by simp [hx])))

/-- A LAW: it returned true, nothing that was there has turned. -/
theorem law_post (hl : laidOutB P = true) {f : Func} {s : ChangeSpec} {T : TypeId} {W W' : World} {args : Array Value} {ds : List (DataW H)} {before : List MemPlace}
    (hvars : s.vars = []) (hrt : f.resultTypes = #[T]) (hT : P.underlying T = some .bool) (hts : f.params.toList.all (fun t => P.readableRec t && decide (t < P.types.size)) = true)
    (hW : DataW.Whole enc P f.params.toList s.vars false W args.toList ds [] before) (hA : DataW.TrodAll enc P W 0 (fun _ => true) true f.params.toList args.toList ds before)
    (e1 : (s.fn H (ds ++ [])).results = [.lit (.bool true)]) (e2 : (s.fn H (ds ++ [])).args = ds) (e3 : (s.fn H (ds ++ [])).vars = []) (hb : Below W.heap.size W W') :
    s.post enc P f false true false false W args (.bool true) W' := by
  have hlt : ∀ x ∈ before, x.block < W.heap.size := fun x hx => hW.lt x hx
  refine post_of_below (pa := before) (pv := []) hW ?_ ?_ ?_ (by simp) hb ?_
  · intro b sp hd
    rw [e1, hrt]
    exact trodAll_cons_mk (shut_bool hT true) trodAll_mk0
  · intro sp hsp
    rw [e2]
    exact trodAll_keep hl hb sp _ _ _ _ (fun t ht => by simpa using List.all_eq_true.1 hts t ht) hA hlt hsp
  · intro sp hsp
    rw [e3, hvars]
    rfl
  · exact ok_one hrt rfl (okWide_bool_mk hT true)
end
end Go.Proofs.YtljekaadbabhkaaDoor
/- Readers of steps, with a bound on what 'long' counts. -/
namespace Go.Proofs.YtljekaadbabhkaaDoor.Am
open Go.RowKit Go.ChangeShapes Go.WideShapes Go.Deep Go.Joins
section
variable {H : Type} {enc : TypeId × Value → H} {w : World} {base : Nat} {spare : Nat → Bool} {held : Bool}
set_option maxRecDepth 100000 in
theorem bStrs : OpensB enc Tryd.prog w base spare held 35 (fun l : List ByteArray => [.sl 1 (l.map cS)]) (fun l => l.length * 16 ≤ 140737488355328 ∧ ∀ s ∈ l, s.size ≤ 140737488355328) (fun l => (l.map (fun s : ByteArray => s.size + 1)).sum + 1) :=
  opensB_slice Tryd.underlying35 (by kernel_rfl) (by kernel_rfl) (by decide) (by decide) (opensB_str Tryd.underlying9)
theorem sum_lenW : ∀ l : List ByteArray, (l.map (fun s : ByteArray => s.size + 1)).sum = lenW l + l.length
  | [] => rfl
  | a :: r => by rw [List.map_cons, List.sum_cons, sum_lenW r, lenW_cons, List.length_cons]; omega
set_option maxRecDepth 100000 in
theorem bStep : OpensB enc Tryd.prog w base spare held 37 cGStep (fun _ => True) (fun x => lenS x + 1) :=
  opensB_conv (fun p : Int × (ByteArray × List ByteArray) => { At := p.1, Name := p.2.1, Args := p.2.2 : GStep })
    (opensB_struct Tryd.underlying37 (opensFB_cons (off' := 1) (en := fun z : Int => [AV.c (.int .i64 z)]) (R := fun z : Int => (Lit.int .i64 z).wf = true) (wt := fun _ => 1) (en' := fun p : ByteArray × List ByteArray => [AV.c (.string p.1)] ++ [AV.sl 1 (p.2.map cS)]) (R' := fun p : ByteArray × List ByteArray => p.1.size ≤ 140737488355328 ∧ (p.2.length * 16 ≤ 140737488355328 ∧ ∀ s ∈ p.2, s.size ≤ 140737488355328)) (wt' := fun p : ByteArray × List ByteArray => (p.1.size + 1) + ((p.2.map (fun s : ByteArray => s.size + 1)).sum + 1)) rfl (by kernel_rfl) (opensB_int Tryd.underlying3)
      (opensFB_cons (off' := 2) (en := fun s : ByteArray => [AV.c (.string s)]) (R := fun s => s.size ≤ 140737488355328) (wt := fun s => s.size + 1) (en' := fun l : List ByteArray => [AV.sl 1 (l.map cS)]) (R' := fun l : List ByteArray => l.length * 16 ≤ 140737488355328 ∧ ∀ s ∈ l, s.size ≤ 140737488355328) (wt' := fun l : List ByteArray => (l.map (fun s : ByteArray => s.size + 1)).sum + 1) rfl (by kernel_rfl) (opensB_str Tryd.underlying9) (opensFB_last rfl (by kernel_rfl) bStrs))))
    (fun _ => rfl) (fun _ _ => trivial) (fun p => by
      have := sum_lenW p.2.2
      show p.2.1.size + p.2.2.length + lenW p.2.2 + 1 ≤ _
      omega)
theorem sum_lenS : ∀ l : List GStep, (l.map (fun x => lenS x + 1)).sum = l.length + (l.map lenS).sum
  | [] => rfl
  | a :: r => by rw [List.map_cons, List.sum_cons, sum_lenS r, List.map_cons, List.sum_cons, List.length_cons]; omega
set_option maxRecDepth 100000 in
theorem bSteps : OpensB enc Tryd.prog w base spare held 23 (fun l : List GStep => [.sl 3 (l.map cGStep)]) (fun _ => True) lenL :=
  opensB_conv id (opensB_slice (sz := 3) (by_ := 48) Tryd.underlying23 (by kernel_rfl) (by kernel_rfl) (by decide) (by decide) bStep) (fun _ => rfl) (fun _ _ => trivial) (fun l => by rw [sum_lenS]; exact Nat.le_succ _)
end
theorem u8_wf {z : Int} (h : (Lit.int .u8 z).wf = true) : 0 ≤ z ∧ z ≤ 255 := by
  simp only [Lit.wf, Bool.and_eq_true, decide_eq_true_eq] at h
  have h1 : IntKind.u8.min = 0 := rfl
  have h2 : IntKind.u8.max = 255 := rfl
  omega
end Go.Proofs.YtljekaadbabhkaaDoor.Am
/- stratagemlaw13.PlanfileLines returns true for every input of bulk at most 1048576. No condition beyond the card's own. -/
namespace Go.Proofs.YtljekaadbabhkaaDoor.rowLines
open Go.ChangeShapes Go.WideShapes Go.ChangeAt Go.RowKit Am

theorem table {W : World} (h : laidMetH Tryd.prog Rows.planfileLinesUptoRow.laid W) : TabOk W := by
  obtain ⟨ps, ⟨_, _, _, _, _, _, _, _, _, _, ⟨_, _, _, _, _, _, _, _, _, _, hr, _⟩, _⟩, _⟩ := h
  obtain ⟨g', t', cs, fuel, p, q, hg', ht', hvar, hd, _, _⟩ := hr
  obtain rfl := Option.some.inj (gPow.symm.trans hg')
  obtain rfl := Option.some.inj ((show (Tryd.prog.globals[3]?).map (·.type) = some 129 by kernel_rfl).symm.trans ht')
  unfold TabOk Lib.TabIs
  rw [hvar, ← Lib.cells_of_tab (zs := Lib.pow10Tab) Tryd.underlying129 Tryd.underlying117 (by kernel_rfl) (by kernel_rfl) hd]
set_option maxRecDepth 100000 in
theorem contract (H : Type) (enc : TypeId × Value → H) (W : World) (base : Nat) (args : Array Value) (ds gs : List (DataW H)) (before : List MemPlace)
    (hval : ∀ (j : Nat) t v, Tryd.f9.params[j]? = some t → args[j]? = some v → Value.okWide Tryd.prog W .any base t v)
    (hW : DataW.Whole enc Tryd.prog Tryd.f9.params.toList Rows.planfileLinesSpec.vars false W args.toList ds gs before) (hL : laidMetH Tryd.prog Rows.planfileLinesUptoRow.laid W)
    (hsz : (DataW.weightsEach Tryd.prog (Tryd.f9.params.toList ++ (OpenSpec.ofChange Rows.planfileLinesSpec).bare.plain.varTypes Tryd.prog) (ds ++ gs)).all (· ≤ reachBytes) = true) (hsh : W.ShapedOpen Tryd.prog) (hk : Rows.uptoSmall H (ds ++ gs) = true) :
    Calls Tryd.prog 9 args W fun e W' => ∃ v, e = .returned v ∧ Rows.planfileLinesSpec.post enc Tryd.prog Tryd.f9 false true false false W args v W' := by
  have hW' := hW
  obtain ⟨p, q, hA0, hV, rfl, hfz, hnd⟩ := hW
  have hA : DataW.TrodAll enc Tryd.prog W 0 (fun _ => true) true Tryd.f9.params.toList args.toList ds p := hA0
  rw [Tryd.params9] at hA hval
  obtain ⟨v0, vs0, d0, ds0, p0, q0, hargs, rfl, rfl, h0, r0⟩ := trodAll_cons hA
  obtain ⟨v1, vs1, d1, ds1, p1, q1, rfl, rfl, rfl, h1, r1⟩ := trodAll_cons r0
  obtain ⟨v2, vs2, d2, ds2, p2, q2, rfl, rfl, rfl, h2, r2⟩ := trodAll_cons r1
  obtain ⟨rfl, rfl, rfl⟩ := trodAll_nil r2
  obtain rfl : args = #[v0, v1, v2] := Array.ext' hargs
  obtain ⟨rfl, rfl⟩ := trodVars_none hV
  simp only [List.append_nil] at hW' hA0 hsz hk
  rw [Tryd.params9] at hsz
  obtain ⟨a0, len0, cap0, rfl⟩ := okWide_slice Tryd.underlying23 (hval 0 23 v0 rfl rfl)
  obtain ⟨a1, rfl, rfl, rfl, wd1⟩ := open_int Tryd.underlying5 (hval 1 5 v1 rfl rfl) h1
  obtain ⟨a2, rfl, rfl, rfl, wd2⟩ := open_int Tryd.underlying5 (hval 2 5 v2 rfl rfl) h2
  obtain ⟨l, _, hb, k0⟩ := arg_oneB rfl bSteps h0 (sized_arg hsz (j := 0) rfl rfl)
  have hl : lenL l ≤ 4000000000000000000 := by
    have h1 := of_decide_eq_true hk
    simp only [Rows.uptoBulkAll] at h1
    omega
  refine (law_of (A_l13_PlanfileLines 100000 l a1 a2 (lines_true l a1 a2 hl (u8_wf wd1) (u8_wf wd2))) ⟨table hL, Tryd.laysM146.s1_3 W hsh⟩ rfl (fun j x v hx hv => ?_)).mono fun e W' ⟨he, hb⟩ => ?_
  · match j, hx, hv with
    | 0, hx, hv => simp at hx hv; subst hx hv; exact k0
    | 1, hx, hv => simp at hx hv; subst hx hv; exact .c _
    | 2, hx, hv => simp at hx hv; subst hx hv; exact .c _
    | j + 3, hx, hv => simp at hx
  · subst he
    exact ⟨_, rfl, law_post laidOut rfl (by kernel_rfl) Tryd.underlying4 (by kernel_rfl) hW' hA0 rfl rfl rfl hb⟩
theorem laid_met (os : Os) : laidMet Tryd.prog Rows.planfileLinesUptoRow.laid ((laidWorld5 os).forCall (fun _ _ => 0) ⟨#[], #[.slice none 0 0, .int .u8 0, .int .u8 0], []⟩).memory :=
  laidMet_of_run' 8 (by kernel_rfl) (by kernel_rfl)
theorem reads (os : Os) {H : Type} (enc : TypeId × Value → H) : ∃ places, DataW.whole enc Tryd.prog ((laidWorld5 os).forCall (fun _ _ => 0) ⟨#[], #[.slice none 0 0, .int .u8 0, .int .u8 0], []⟩).memory Tryd.f9.params.toList Rows.planfileLinesSpec.vars false (#[.slice none 0 0, .int .u8 0, .int .u8 0] : Array Value).toList 8 = some ([.nil, .lit (.int .u8 0), .lit (.int .u8 0)], [], places) :=
  ⟨[], by kernel_rfl⟩

set_option maxRecDepth 100000 in
theorem lifted (os : Os) (started : os.Started) (H : Type) (enc : TypeId × Value → H) (F : Stop.Interp) :
    ReturnsInHanded {} Tryd.checked os 9 .any ((Rows.OpenSpec.upto Rows.planfileLinesSpec).preRow enc Tryd.prog Tryd.f9 Rows.planfileLinesUptoRow.domain false Rows.planfileLinesUptoRow.laid) (((Rows.OpenSpec.upto Rows.planfileLinesSpec).at F).post enc Tryd.prog Tryd.f9 false true false false) := by
  obtain ⟨places, hx⟩ := reads os enc
  refine returnsInHanded_of_row (C := Tryd.checked) (s := Rows.OpenSpec.upto Rows.planfileLinesSpec) own started (by kernel_rfl) Tryd.func9
    (witness_row_at (enc := enc) (C := Tryd.checked) false (laidWorld5 os) #[.slice none 0 0, .int .u8 0, .int .u8 0] rfl (by kernel_rfl) (by kernel_rfl) (by kernel_rfl)
      (OpenSpec.preRow_of_cond 8 hx (by kernel_rfl) (fun k hk => by cases hk; kernel_rfl) (by kernel_rfl) (laid_met os))) ?_
  intro W base args ds gs before hval hW _ hcond hsz hL hsh _
  exact contract H enc W base args ds gs before hval hW hL hsz hsh (hcond _ rfl)

theorem said : Rows.PlanfileLinesUptoSaid :=
  OpenClaim.holds_of_cond 9 Tryd.f9 rfl rfl rfl rfl rfl rfl rfl ⟨rfl, rfl, rfl, rfl, rfl⟩ rfl rfl rfl rfl rfl (by kernel_rfl) Tryd.func9 (by kernel_rfl)
    (of_decide_eq_true (by kernel_rfl)) (by unfold Func.isWrapper; first | (rw [if_pos (by decide +kernel)]; kernel_rfl) | (rw [if_neg (by decide +kernel)]; exact ⟨rfl, rfl⟩))
    (fun os started H enc _ F => by rw [OpenClaim.pre_eq_preRow]; exact lifted os started H enc F)

theorem plain (f : FuncId) (fn : Func) (hf : Tryd.pinned.checked.prog.funcNamed Rows.planfileLinesUptoRow.func = some f) (hfn : Tryd.pinned.checked.prog.funcs[f]? = some fn) :
    true = Tryd.pinned.checked.prog.looks [] ∧ ∀ (j : Nat) t, fn.params[j]? = some t → Tryd.pinned.checked.prog.wantsStandIn t = false := by
  obtain rfl : f = 9 := Option.some.inj ((show Tryd.prog.funcNamed Rows.planfileLinesUptoRow.func = some 9 by kernel_rfl).symm.trans hf) |>.symm
  obtain rfl : fn = Tryd.f9 := (Option.some.inj (Tryd.func9.symm.trans hfn)).symm
  refine ⟨by kernel_rfl, fun j t ht => ?_⟩
  have hall : Tryd.f9.params.toList.all (fun t => !Tryd.prog.wantsStandIn t) = true := by kernel_rfl
  have := List.all_eq_true.1 hall t (by simpa using Array.mem_of_getElem? ht)
  have h2 : Tryd.prog.wantsStandIn t = false := by simpa using this
  exact h2

/-- THE CARD: stratagemlaw13's statement holds. -/
theorem card : Rows.PlanfileLinesUptoCardSaid :=
  Claim7.holds_tied_plain_at .later [] _ _ _ _ said (fun _ h => by cases h) (by kernel_rfl) (fun _ h => by cases h) planfileLinesUpto_row_tie rfl ⟨rfl, rfl⟩ (by kernel_rfl) rfl plain (by kernel_rfl)
end Go.Proofs.YtljekaadbabhkaaDoor.rowLines
