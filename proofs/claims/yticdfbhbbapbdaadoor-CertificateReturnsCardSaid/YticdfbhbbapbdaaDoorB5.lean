/- stratagemlaw30.CertificateReturns returns true for every input. No condition beyond the card's own. -/
import Derived.Test.YticdfbhbbapbdaaDoorB4
import Derived.Test.YticdfbhbbapbdaaDoorB1
import Derived.Deep.Slices
import Derived.Deep.Fields
import Derived.ChangeSame
import Derived.SizedLaws
import Derived.Lib.SmallJoins
import Derived.Test.YticdfbhbbapbdaaDoorB2
import Derived.Below
import Derived.OpenShut
import Derived.Carry
/- Plain law of CertificateParses: both parsers agree on every text. -/
namespace Go.Proofs.YticdfbhbbapbdaaDoor.Am
open Go.RowKit
def kUnsolv : List UInt8 := [117, 110, 115, 111, 108, 118, 97, 98, 108, 101]
/-- the bound of the first line -/
def headF (l : List UInt8) : Option Int :=
  if l = kUnsolv then some (-1) else match splitL 32 l with
    | [w0, w1] => if w0 = kLower then numF w1 else none
    | _ => none
theorem lit_eq (s t : ByteArray) : (s.toList == t.toList) = decide (bl s = bl t) := by
  rw [toList_bl, toList_bl, Bool.eq_iff_iff]
  simp only [beq_iff_eq, decide_eq_true_eq]
theorem first_eq (s : ByteArray) (hs : s.size ≤ 65536) : ∃ n, M_stratagemref30_first s = some (n, (headF (bl s)).isSome) ∧ ∀ m, headF (bl s) = some m → n = m := by
  rw [M_stratagemref30_first, lit_eq, headF]
  by_cases h : bl s = kUnsolv
  · rw [show decide (bl s = bl (⟨#[117, 110, 115, 111, 108, 118, 97, 98, 108, 101]⟩ : ByteArray)) = true from decide_eq_true h, sel_tt, if_pos h]
    exact ⟨-1, rfl, fun m hm => by injection hm⟩
  · rw [show decide (bl s = bl (⟨#[117, 110, 115, 111, 108, 118, 97, 98, 108, 101]⟩ : ByteArray)) = false from decide_eq_false h, sel_ff, if_neg h, words_eq s hs, ob1_some]
    match hsp : splitL 32 (bl s) with
    | [] => exact absurd hsp (splitL_ne _ _)
    | [w0] => exact ⟨0, rfl, fun m hm => by cases hm⟩
    | w0 :: w1 :: w2 :: ws =>
      refine ⟨0, ?_, fun m hm => by cases hm⟩
      have : (((((w0 :: w1 :: w2 :: ws).map ofB).map cS).length : Int) != 2) = true := by simp; omega
      rw [this, sel_tt]
      rfl
    | [w0, w1] =>
      have hw1 : w1.length ≤ 65536 := by have := splitL_mem_len (c := 32) (l := bl s) (w := w1) (by rw [hsp]; simp); rw [bl_len] at this; omega
      have a0 : ([w0, w1].map ofB)[0]? = some (ofB w0) := rfl
      have a1 : ([w0, w1].map ofB)[1]? = some (ofB w1) := rfl
      rw [show (((([w0, w1].map ofB).map cS).length : Int) != 2) = false from rfl, sel_ff, show (0 : Int) = ((0 : Nat) : Int) from rfl, show (1 : Int) = ((1 : Nat) : Int) from rfl, ix_at a0, ix_at a1]
      simp only [sel_not, ofB_lit]
      obtain ⟨n, hn, hn2⟩ := refnumber_eq (ofB w1) (by rw [size_ofB]; omega)
      rw [bl_ofB] at hn hn2
      by_cases h0 : w0 = kLower
      · rw [show decide (w0 = bl (⟨#[108, 111, 119, 101, 114]⟩ : ByteArray)) = true from decide_eq_true h0, sel_tt, hn]
        refine ⟨n, ?_, ?_⟩
        · show some (n, (numF w1).isSome) = some (n, (if w0 = kLower then numF w1 else none).isSome)
          rw [if_pos h0]
        · intro m hm
          have hm : (if w0 = kLower then numF w1 else none) = some m := hm
          rw [if_pos h0] at hm
          exact hn2 m hm
      · rw [show decide (w0 = bl (⟨#[108, 111, 119, 101, 114]⟩ : ByteArray)) = false from decide_eq_false h0, sel_ff]
        refine ⟨0, ?_, ?_⟩
        · show some ((0 : Int), false) = some (0, (if w0 = kLower then numF w1 else none).isSome)
          rw [if_neg h0]
          rfl
        · intro m hm
          have hm : (if w0 = kLower then numF w1 else none) = some m := hm
          rw [if_neg h0] at hm
          cases hm
theorem head_eq (s : ByteArray) : M_certificate_head s = some (match headF (bl s) with | some x => (x, true) | none => (0, false)) := by
  rw [M_certificate_head, lit_eq, headF]
  by_cases h : bl s = kUnsolv
  · rw [show decide (bl s = bl (⟨#[117, 110, 115, 111, 108, 118, 97, 98, 108, 101]⟩ : ByteArray)) = true from decide_eq_true h, sel_tt, if_pos h]
  · rw [show decide (bl s = bl (⟨#[117, 110, 115, 111, 108, 118, 97, 98, 108, 101]⟩ : ByteArray)) = false from decide_eq_false h, sel_ff, if_neg h, cutPrefix_model, ob2_some]
    have hp : bl (⟨#[108, 111, 119, 101, 114, 32]⟩ : ByteArray) = kLower ++ [32] := rfl
    have hk : (32 : UInt8) ∉ kLower := by decide
    rw [hp]
    cases hpre : Lib.hasPrefix (bl s) (kLower ++ [32]) with
    | false =>
      have hno : (match splitL 32 (bl s) with | [w0, w1] => if w0 = kLower then numF w1 else none | _ => none) = none := by
        split
        · rename_i w0 w1 hsp
          rw [if_neg]
          intro h0
          rcases splitL_front hsp with ⟨h1, _⟩ | ⟨r, h1, _⟩
          · cases h1
          · rw [h1, h0, show kLower ++ 32 :: r = (kLower ++ [32]) ++ r from by simp, (prefix_yes _ r).1] at hpre
            cases hpre
        · rfl
      rw [hno]
      rfl
    | true =>
      obtain ⟨r, hr⟩ := prefix_of hpre
      rw [hr, (prefix_yes _ r).2, number_eq, bl_ofB]
      have hF : (match splitL 32 ((kLower ++ [32]) ++ r) with | [w0, w1] => if w0 = kLower then numF w1 else none | _ => none) = numF r := by
        rw [show (kLower ++ [32]) ++ r = kLower ++ 32 :: r from by simp, splitL_app hk]
        rcases splitL_cases 32 r with ⟨_, e⟩ | ⟨a, b, _, e, e2⟩
        · rw [e]
          show (if kLower = kLower then numF r else none) = _
          rw [if_pos rfl]
        · have hn : numF r = none := by
            cases hn : numF r with
            | none => rfl
            | some d => exact absurd (by rw [e]; simp) (dig_ne hn (c := 32) (by decide))
          rw [hn, e2]
          cases hb : splitL 32 b with
          | nil => exact absurd hb (splitL_ne _ _)
          | cons x t => rfl
      rw [hF]
      cases numF r <;> rfl
/-- a line read, in order -/
def stepF (i : Nat) (st : Int × List Nogood) (l : List UInt8) : Option (Int × List Nogood) :=
  if i = 0 then (headF l).map (fun b => (b, st.2)) else (nogoodF l).map (fun g => (st.1, st.2 ++ [g]))
/-- all lines read: what they say, or the first one that says nothing -/
def runF : Nat → Int × List Nogood → List (List UInt8) → (Int × List Nogood) ⊕ Nat
  | _, st, [] => .inl st
  | i, st, l :: r => match stepF i st l with
    | some st' => runF (i + 1) st' r
    | none => .inr i
def zeroC : GCertificate := { Bound := 0, Nogoods := [] }
theorem refparse_loop (ls : List (List UInt8)) (hw : ∀ w ∈ ls, w.length ≤ 65536) (hl : ls.length ≤ 65536) : ∀ (k n : Nat) (b : Int) (gs : List Nogood), n ≤ ls.length → ls.length < k + n → gs.length ≤ n →
    M_stratagemref30_Parse_L1 (ls.map ofB) k (n : Int) b gs = some (match runF n (b, gs) (ls.drop n) with | .inl st => .inl st | .inr i => .inr (zeroC, ((i + 1 : Nat) : Int), 2)) := by
  intro k
  induction k with
  | zero => intro n b gs h1 h2; omega
  | succ k ih =>
    intro n b gs h1 h2 h3
    rw [M_stratagemref30_Parse_L1]
    simp only [sel_dec, List.length_map, sel_not, beq_int]
    by_cases hn : n < ls.length
    · rw [if_pos (by omega)]
      obtain ⟨w, hw1, hw2⟩ := drop_at hn
      have hwl := hw w (List.mem_of_getElem? hw1)
      rw [ix_at (y := ofB w) (by rw [List.getElem?_map, hw1]; rfl), hw2, runF, stepF]
      by_cases h0 : n = 0
      · obtain ⟨x, hx, hx2⟩ := first_eq (ofB w) (by rw [size_ofB]; omega)
        rw [bl_ofB] at hx hx2
        rw [if_pos (by omega), if_pos h0, hx, ob2_some, ob1_some]
        cases hf : headF w with
        | none => simp only [Option.isSome_none, sel_ff, Option.map_none]; exact congrArg (fun z => some (Sum.inr (zeroC, z, (2 : Int)))) (w64s (by omega))
        | some m =>
          simp only [Option.isSome_some, sel_tt, Option.map_some]
          rw [w64s (by omega), hx2 m hf]
          exact ih (n + 1) m gs hn (by omega) (by omega)
      · obtain ⟨x, hx, hx2⟩ := refnogood_eq (ofB w) (by rw [size_ofB]; omega)
        rw [bl_ofB] at hx hx2
        rw [if_neg (by omega), if_neg h0, hx, ob2_some, grd_t (by omega), ob1_some]
        cases hf : nogoodF w with
        | none => simp only [Option.isSome_none, sel_ff, Option.map_none]; rw [w64s (by omega)]; try rfl
        | some m =>
          simp only [Option.isSome_some, sel_tt, Option.map_some]
          rw [w64s (by omega), hx2 m hf]
          exact ih (n + 1) b (gs ++ [m]) hn (by omega) (by simp; omega)
    · rw [if_neg (by omega), List.drop_eq_nil_of_le (by omega)]
      rfl
theorem progparse_loop (ls : List (List UInt8)) (rem : List UInt8) (hw : ∀ w ∈ ls ++ [rem], w.length ≤ 65536) (hl : ls.length ≤ 65536) : ∀ (k n : Nat) (b : Int) (gs : List Nogood), n ≤ ls.length → ls.length + 1 < k + n → gs.length ≤ n →
    M_certificate_Parse_L1 ((ls ++ [rem]).map ofB) k (n : Int) b gs = some (match runF n (b, gs) (ls.drop n) with
      | .inl st => if rem = [] ∧ 0 < ls.length then .inl st else .inr (zeroC, ((ls.length + 1 : Nat) : Int), .no 2)
      | .inr i => .inr (zeroC, ((i + 1 : Nat) : Int), .no 2)) := by
  intro k
  induction k with
  | zero => intro n b gs h1 h2; omega
  | succ k ih =>
    intro n b gs h1 h2 h3
    rw [M_certificate_Parse_L1]
    have e1 : IntKind.i64.wrap ((((ls ++ [rem]).map ofB).map cS).length - 1 : Int) = ((ls.length : Nat) : Int) := by
      rw [List.length_map, List.length_map, List.length_append, w64 (by rw [List.length_singleton]; omega) (by rw [List.length_singleton]; omega)]
      simp
    rw [e1]
    simp only [sel_dec, sel_not, beq_int, List.length_map, List.length_append, List.length_singleton]
    rw [if_pos (by omega)]
    by_cases hn : n < ls.length
    · obtain ⟨w, hw1, hw2⟩ := drop_at hn
      have hat : (ls ++ [rem])[n]? = some w := by rw [List.getElem?_append_left hn]; exact hw1
      have hwl := hw w (List.mem_of_getElem? hat)
      rw [ix_at (y := ofB w) (by rw [List.getElem?_map, hat]; rfl), hw2, runF, stepF, if_pos (by omega), ob1_some, osum_inl]
      by_cases h0 : n = 0
      · rw [if_pos (by omega), if_pos h0, head_eq, bl_ofB]
        cases hf : headF w with
        | none => simp only [ob2_some, ob1_some, sel_ff, Option.map_none]; rw [w64s (by omega)]; try rfl
        | some m =>
          simp only [ob2_some, ob1_some, sel_tt, Option.map_some]
          rw [if_pos (by omega), w64s (by omega)]
          exact ih (n + 1) m gs hn (by omega) (by omega)
      · rw [if_neg (by omega), if_neg h0, nogood_eq (ofB w) (by rw [size_ofB]; omega), bl_ofB]
        have hg : (gs.length + 1) * 32 ≤ 140737488355328 := by omega
        cases hf : nogoodF w with
        | none => simp only [ob2_some, grd_t hg, ob1_some, sel_ff, Option.map_none]; rw [w64s (by omega)]; try rfl
        | some m =>
          simp only [ob2_some, grd_t hg, ob1_some, sel_tt, Option.map_some]
          rw [if_pos (by omega), w64s (by omega)]
          exact ih (n + 1) b (gs ++ [m]) hn (by omega) (by simp; omega)
    · have hnl : n = ls.length := by omega
      subst hnl
      have hat : (ls ++ [rem])[ls.length]? = some rem := by simp
      have hwl := hw rem (by simp)
      rw [ix_at (y := ofB rem) (by rw [List.getElem?_map, hat]; rfl), List.drop_eq_nil_of_le (Nat.le_refl _), runF, if_neg (by omega), ofB_lit]
      have hdone : ∀ (x : Option (Bool × Int × List Nogood)), (∃ v, x = some v) → ob1 x (fun (v120, v121, v122) => sel v120 (if (ls.length : Int) < (ls.length : Int) then M_certificate_Parse_L1 ((ls ++ [rem]).map ofB) k (IntKind.i64.wrap ((ls.length : Int) + 1)) v121 v122 else some (.inr (zeroC, IntKind.i64.wrap ((ls.length : Int) + 1), .no 2))) (some (.inr (zeroC, IntKind.i64.wrap ((ls.length : Int) + 1), .no 2)))) = some (.inr (zeroC, ((ls.length + 1 : Nat) : Int), .no 2)) := by
        rintro x ⟨⟨v1, v2, v3⟩, rfl⟩
        show sel v1 (if (ls.length : Int) < (ls.length : Int) then M_certificate_Parse_L1 ((ls ++ [rem]).map ofB) k (IntKind.i64.wrap ((ls.length : Int) + 1)) v2 v3 else some (.inr (zeroC, IntKind.i64.wrap ((ls.length : Int) + 1), .no 2))) (some (.inr (zeroC, IntKind.i64.wrap ((ls.length : Int) + 1), .no 2))) = _
        rw [if_neg (by omega), w64s (by omega)]
        cases v1 <;> rfl
      have hex : ∃ v, (if (ls.length : Int) = 0 then ob2 (M_certificate_head (ofB rem)) (fun z124 z125 => some (z125, z124, gs)) else ob2 (M_certificate_nogood (ofB rem)) (fun z126 z127 => grd ((gs.length + 1) * 32 ≤ 140737488355328) (some (z127, b, gs ++ [z126])))) = some v := by
        have hg : (gs.length + 1) * 32 ≤ 140737488355328 := by omega
        split
        · rw [head_eq]
          cases headF (bl (ofB rem)) <;> exact ⟨_, rfl⟩
        · rw [nogood_eq (ofB rem) (by rw [size_ofB]; omega)]
          cases nogoodF (bl (ofB rem)) <;> simp only [ob2_some, grd_t hg] <;> exact ⟨_, rfl⟩
      show _ = some (if rem = [] ∧ 0 < ls.length then Sum.inl (b, gs) else Sum.inr (zeroC, ((ls.length + 1 : Nat) : Int), Er.no 2))
      by_cases hr : rem = []
      · rw [show decide (rem = bl (⟨#[]⟩ : ByteArray)) = true from decide_eq_true hr, sel_tt]
        by_cases h0 : ls.length = 0
        · rw [if_neg (show ¬ (ls.length : Int) > 0 by omega), ob1_some, osum_inl, if_neg (show ¬ (rem = [] ∧ 0 < ls.length) from fun h => by omega)]
          exact hdone _ hex
        · rw [if_pos (show (ls.length : Int) > 0 by omega), ob1_some, osum_inr, if_pos (show rem = [] ∧ 0 < ls.length from ⟨hr, by omega⟩)]
      · rw [show decide (rem = bl (⟨#[]⟩ : ByteArray)) = false from decide_eq_false hr, sel_ff, ob1_some, osum_inl, if_neg (show ¬ (rem = [] ∧ 0 < ls.length) from fun h => hr h.1)]
        exact hdone _ hex
theorem pieces_last (l : List UInt8) : ∃ ls rem, splitL 10 l = ls ++ [rem] := by
  have h := splitL_ne 10 l
  exact ⟨_, _, (List.dropLast_concat_getLast h).symm⟩
/-- what a text says, by the document -/
def parseF (l : List UInt8) : GCertificate × Int × Int :=
  if l.length > 65536 then (zeroC, 0, 5) else
    match runF 0 (0, []) (splitL 10 l).dropLast with
    | .inr i => (zeroC, ((i + 1 : Nat) : Int), 2)
    | .inl st => if (splitL 10 l).getLastD [] = [] ∧ 0 < (splitL 10 l).dropLast.length then (if checkF st.1 st.2 = 0 then ({ Bound := st.1, Nogoods := st.2 }, 0, 0) else (zeroC, 0, checkF st.1 st.2)) else (zeroC, (((splitL 10 l).dropLast.length + 1 : Nat) : Int), 2)
theorem runF_small : ∀ (ls : List (List UInt8)) (i : Nat) (st st' : Int × List Nogood), (∀ w ∈ ls, w.length ≤ 65536) → runF i st ls = .inl st' → st'.2.length ≤ st.2.length + ls.length ∧ ((∀ g ∈ st.2, g.1.length ≤ 65537) → ∀ g ∈ st'.2, g.1.length ≤ 65537)
  | [], i, st, st', _, h => by simp [runF] at h; subst h; exact ⟨by simp, fun h => h⟩
  | l :: r, i, st, st', hw, h => by
    rw [runF] at h
    cases hs : stepF i st l with
    | none => rw [hs] at h; cases h
    | some st2 =>
      rw [hs] at h
      obtain ⟨h1, h2⟩ := runF_small r (i + 1) st2 st' (fun w hx => hw w (by simp [hx])) h
      rw [stepF] at hs
      split at hs
      · cases hh : headF l with
        | none => rw [hh] at hs; cases hs
        | some b => rw [hh] at hs; simp at hs; subst hs; exact ⟨by simp at h1 ⊢; omega, h2⟩
      · cases hh : nogoodF l with
        | none => rw [hh] at hs; cases hs
        | some g =>
          rw [hh] at hs
          simp at hs
          subst hs
          refine ⟨by simp at h1 ⊢; omega, fun hst => h2 (fun g' hg' => ?_)⟩
          rcases List.mem_append.1 hg' with hg' | hg'
          · exact hst g' hg'
          · simp at hg'
            subst hg'
            have hl := hw l (by simp)
            have hfacts : ∀ (ws : List (List UInt8)) (fs : List Fact), factsF ws = some fs → fs.length = ws.length := by
              intro ws
              induction ws with
              | nil => intro fs h; simp [factsF] at h; subst h; rfl
              | cons w ws ih =>
                intro fs h
                rw [factsF] at h
                split at h
                · rename_i f fs' _ hf
                  injection h with h
                  subst h
                  simp [ih fs' hf]
                · cases h
            rw [nogoodF] at hh
            have hsl := splitL_len_le 32 l
            split at hh
            · rename_i w0 w1 ws hsp
              rw [hsp] at hsl
              rw [nogW] at hh
              split at hh
              · split at hh
                · rename_i d fs _ hf
                  injection hh with hh
                  subst hh
                  have := hfacts ws fs hf
                  simp at hsl ⊢
                  omega
                · cases hh
              · cases hh
            · cases hh
theorem small_of {ls : List (List UInt8)} {st : Int × List Nogood} (hw : ∀ w ∈ ls, w.length ≤ 65536) (hl : ls.length ≤ 65537) (h : runF 0 (0, []) ls = .inl st) : smallN st.2 = true ∧ st.2.length ≤ 65537 := by
  obtain ⟨h1, h2⟩ := runF_small ls 0 (0, []) st hw h
  have h3 := h2 (fun g hg => by cases hg)
  simp at h1
  refine ⟨?_, by omega⟩
  simp only [smallN, Bool.and_eq_true, decide_eq_true_eq, List.all_eq_true]
  exact ⟨by omega, fun g hg => by have := h3 g hg; omega⟩
theorem pieces_len (l : List UInt8) : (splitL 10 l).dropLast.length ≤ l.length := by
  have := splitL_len_le 10 l
  simp
  omega
theorem last_dec (l : List (List UInt8)) (x : List UInt8) : (l ++ [x]).getLastD [] = x := by simp
theorem refparse_eq (s : ByteArray) : M_stratagemref30_Parse s = some (parseF (bl s)) := by
  rw [M_stratagemref30_Parse, sel_dec, parseF, bl_len]
  by_cases hbig : s.size > 65536
  · rw [if_pos (by omega), if_pos hbig]
    rfl
  · rw [if_neg (by omega), if_neg hbig, lines_eq s (by omega), ob2_some]
    obtain ⟨ls, rem, hp⟩ := pieces_last (bl s)
    have hlen := splitL_len_le 10 (bl s)
    rw [bl_len, hp] at hlen
    simp at hlen
    have hmem : ∀ w ∈ ls ++ [rem], w.length ≤ 65536 := fun w hw => by have := splitL_mem_len (c := 10) (l := bl s) (w := w) (by rw [hp]; exact hw); rw [bl_len] at this; omega
    have hml : ∀ w ∈ ls, w.length ≤ 65536 := fun w hw => hmem w (by simp [hw])
    rw [hp, List.map_append, List.map_singleton, List.dropLast_concat, List.dropLast_concat, last_dec]
    have hloop := refparse_loop ls hml (by omega) (ls.length + 1) 0 0 [] (by omega) (by omega) (by simp)
    rw [List.drop_zero, show ((0 : Nat) : Int) = 0 from rfl] at hloop
    rw [show ((((ls.map ofB).map cS).length : Int)).toNat + 1 = ls.length + 1 from by simp, hloop, ob1_some]
    cases hr : runF 0 (0, []) ls with
    | inr i => rfl
    | inl st =>
      obtain ⟨b, gs⟩ := st
      obtain ⟨hsm, hgl⟩ := small_of hml (by omega) hr
      simp only [osum_inl, sel_not, List.length_map, beq_int, sel_dec]
      have e1 : IntKind.i64.wrap ((ls.length : Int) + 1) = ((ls.length + 1 : Nat) : Int) := w64s (by omega)
      rw [e1]
      by_cases hrem : rem = []
      · subst hrem
        by_cases h0 : ls.length = 0
        · rw [if_neg (show ¬ (([] : List UInt8) = [] ∧ 0 < ls.length) from fun h => by omega)]
          rw [show (([] : List UInt8) == []) = true from rfl, sel_tt, if_pos (by omega)]
          rfl
        · rw [if_pos (show (([] : List UInt8) = [] ∧ 0 < ls.length) from ⟨rfl, by omega⟩), show (([] : List UInt8) == []) = true from rfl, sel_tt, if_neg (by omega), ob1_some, osum_inl, grd_t (show gs.length ≤ 140737488355328 by have : gs.length ≤ 65537 := hgl; omega), M_stratagemref30_Check, grd_t hsm, ob1_some]
          by_cases hc : checkF b gs = 0
          · rw [show ((checkF b gs != 0) = false) from by simp [hc], sel_ff, if_pos hc]
          · rw [show ((checkF b gs != 0) = true) from by simpa using hc, sel_tt, if_neg hc]
            rfl
      · rw [if_neg (show ¬ (rem = [] ∧ 0 < ls.length) from fun h => hrem h.1), show ((rem == []) = false) from by simpa using hrem, sel_ff, ob1_some]
        rfl
theorem progparse_eq (s : ByteArray) : M_certificate_Parse s = some ((parseF (bl s)).1, (parseF (bl s)).2.1, erOf (parseF (bl s)).2.2) := by
  rw [M_certificate_Parse, sel_dec, parseF, bl_len]
  by_cases hbig : s.size > 65536
  · rw [if_pos (by omega), if_pos hbig]
    rfl
  · rw [if_neg (by omega), if_neg hbig, M_strings_Split, grd_t (by omega), grd_t (by exact Nat.le_refl 1), split_eq 10 _ _ (Nat.le_refl _), ob1_some]
    obtain ⟨ls, rem, hp⟩ := pieces_last (bl s)
    have hlen := splitL_len_le 10 (bl s)
    rw [bl_len, hp] at hlen
    simp at hlen
    have hmem : ∀ w ∈ ls ++ [rem], w.length ≤ 65536 := fun w hw => by have := splitL_mem_len (c := 10) (l := bl s) (w := w) (by rw [hp]; exact hw); rw [bl_len] at this; omega
    have hml : ∀ w ∈ ls, w.length ≤ 65536 := fun w hw => hmem w (by simp [hw])
    rw [hp, List.dropLast_concat, last_dec]
    have hloop := progparse_loop ls rem hmem (by omega) (ls.length + 2) 0 0 [] (by omega) (by omega) (by simp)
    rw [List.drop_zero, show ((0 : Nat) : Int) = 0 from rfl] at hloop
    rw [show (((((ls ++ [rem]).map ofB).map cS).length : Int)).toNat + 1 = ls.length + 2 from by simp, hloop, ob1_some]
    cases hr : runF 0 (0, []) ls with
    | inr i => rfl
    | inl st =>
      obtain ⟨b, gs⟩ := st
      obtain ⟨hsm, hgl⟩ := small_of hml (by omega) hr
      show osum _ _ (if rem = [] ∧ 0 < ls.length then Sum.inl (b, gs) else Sum.inr (zeroC, ((ls.length + 1 : Nat) : Int), Er.no 2)) = some ((if rem = [] ∧ 0 < ls.length then (if checkF b gs = 0 then (({ Bound := b, Nogoods := gs } : GCertificate), (0 : Int), (0 : Int)) else (zeroC, 0, checkF b gs)) else (zeroC, ((ls.length + 1 : Nat) : Int), 2)).1, (if rem = [] ∧ 0 < ls.length then (if checkF b gs = 0 then (({ Bound := b, Nogoods := gs } : GCertificate), (0 : Int), (0 : Int)) else (zeroC, 0, checkF b gs)) else (zeroC, ((ls.length + 1 : Nat) : Int), 2)).2.1, erOf (if rem = [] ∧ 0 < ls.length then (if checkF b gs = 0 then (({ Bound := b, Nogoods := gs } : GCertificate), (0 : Int), (0 : Int)) else (zeroC, 0, checkF b gs)) else (zeroC, ((ls.length + 1 : Nat) : Int), 2)).2.2)
      by_cases h : rem = [] ∧ 0 < ls.length
      · rw [if_pos h, if_pos h]
        show grd (gs.length ≤ 140737488355328) _ = _
        rw [grd_t (show gs.length ≤ 140737488355328 by have : gs.length ≤ 65537 := hgl; omega), M_certificate_Check, grd_t hsm, ob1_some]
        by_cases hc : checkF b gs = 0
        · rw [if_pos hc]
          show erM (erOf (checkF b gs)) _ _ = _
          rw [hc]
          rfl
        · rw [if_neg hc]
          show erM (erOf (checkF b gs)) _ _ = some (zeroC, 0, erOf (checkF b gs))
          rw [erOf, if_neg hc]
          rfl
      · rw [if_neg h, if_neg h]
        rfl
theorem num_erOf (z : Int) : M_stratagembase_Num (erOf z) = some z := by
  unfold erOf
  by_cases h : z = 0
  · rw [if_pos h, h]; rfl
  · rw [if_neg h]; rfl
theorem parses_true (s : ByteArray) : M_stratagemlaw30_CertificateParses s = some true := by
  rw [M_stratagemlaw30_CertificateParses, sel_dec]
  by_cases hbig : (s.size : Int) > 3000
  · rw [if_pos hbig]
    rfl
  · rw [if_neg hbig, M_awake, ob1_some]
    show ob3 (M_certificate_Parse s) _ = _
    rw [progparse_eq, refparse_eq]
    obtain ⟨c, n, z, hc⟩ : ∃ c n z, parseF (bl s) = (c, n, z) := ⟨_, _, _, rfl⟩
    rw [hc]
    simp only [ob3_some]
    rw [num_erOf, ob1_some, show (z == z) = true from by simp, show (n == n) = true from by simp, sel_tt, sel_tt]
    have hsm : smallN c.Nogoods = true := by
      rw [parseF, bl_len, if_neg (by omega)] at hc
      obtain ⟨ls, rem, hp⟩ := pieces_last (bl s)
      have hlen := splitL_len_le 10 (bl s)
      rw [bl_len, hp] at hlen
      simp at hlen
      have hml : ∀ w ∈ ls, w.length ≤ 65536 := fun w hw => by have := splitL_mem_len (c := 10) (l := bl s) (w := w) (by rw [hp]; simp [hw]); rw [bl_len] at this; omega
      rw [hp, List.dropLast_concat] at hc
      cases hr : runF 0 (0, []) ls with
      | inr i => rw [hr] at hc; injection hc with hc _; rw [← hc]; rfl
      | inl st =>
        rw [hr] at hc
        have hs2 := (small_of hml (by omega) hr).1
        simp only at hc
        split at hc
        · split at hc
          · injection hc with hc _; rw [← hc]; exact hs2
          · injection hc with hc _; rw [← hc]; rfl
        · injection hc with hc _; rw [← hc]; rfl
    rw [M_stratagemlaw30_Same, grd_t hsm, grd_t hsm, sameC_self]
    rfl
end Go.Proofs.YticdfbhbbapbdaaDoor.Am
/- Plain law of CertificateReturns: what Format writes Parse reads, and back. -/
namespace Go.Proofs.YticdfbhbbapbdaaDoor.Am
open Go.RowKit
theorem numL_snoc {c : UInt8} : ∀ {l : List UInt8} {a : Int}, numL a (l ++ [c]) = (numL a l).bind (fun m => if isDig c then some (10 * m + ((c.toNat : Int) - 48)) else none)
  | [], a => by rw [List.nil_append, numL]; simp only [numL, Option.bind_some]
  | x :: l, a => by
    rw [List.cons_append, numL, numL]
    split
    · exact numL_snoc
    · rfl
theorem dig_nat {k : Nat} (h : k < 10) : (UInt8.ofNat (48 + k)).toNat = 48 + k := by simp; omega
theorem dig_is {k : Nat} (h : k < 10) : isDig (UInt8.ofNat (48 + k)) = true := by simp only [isDig, dig_nat h, Bool.and_eq_true, decide_eq_true_eq]; omega
theorem dec_big {n : Nat} (h : ¬ n < 10) : Lib.decDigits n = Lib.decDigits (n / 10) ++ [UInt8.ofNat (48 + n % 10)] := by rw [Lib.decDigits, dif_neg h]
theorem numL_dec (n : Nat) : numL 0 (Lib.decDigits n) = some (n : Int) := by
  induction n using Nat.strongRecOn with
  | _ n ih =>
    by_cases h : n < 10
    · rw [Lib.decDigits_one h, numL, if_pos (dig_is h), numL, dig_nat h]
      congr 1
      omega
    · rw [dec_big h, numL_snoc, ih (n / 10) (by omega), Option.bind_some, if_pos (dig_is (by omega)), dig_nat (by omega)]
      congr 1
      omega
theorem dec_head (n : Nat) (h0 : 0 < n) : (Lib.decDigits n).head? ≠ some 48 := by
  induction n using Nat.strongRecOn with
  | _ n ih =>
    by_cases h : n < 10
    · rw [Lib.decDigits_one h]
      intro e
      simp only [List.head?_cons, Option.some.injEq] at e
      have := congrArg UInt8.toNat e
      rw [dig_nat h] at this
      simp at this
      omega
    · have := ih (n / 10) (by omega) (by omega)
      rw [dec_big h]
      cases hd : Lib.decDigits (n / 10) with
      | nil => rw [Lib.decDigits] at hd; split at hd <;> simp at hd
      | cons x r => rw [hd] at this; simpa using this
theorem dec_ne (n : Nat) : Lib.decDigits n ≠ [] := by rw [Lib.decDigits]; split <;> simp
theorem dec_len : ∀ (k n : Nat), n < 10 ^ (k + 1) → (Lib.decDigits n).length ≤ k + 1
  | k, n, h => by
    by_cases h10 : n < 10
    · rw [Lib.decDigits_one h10]; simp
    · rw [dec_big h10]
      cases k with
      | zero => simp at h; omega
      | succ k =>
        have := dec_len k (n / 10) (by rw [Nat.pow_succ] at h; omega)
        simp
        omega
theorem numF_dec {n : Nat} (h : n < 10 ^ 13) : numF (Lib.decDigits n) = some (n : Int) := by
  have hl := dec_len 12 n h
  have hne := dec_ne n
  unfold numF
  rw [if_neg, numL_dec]
  rintro (h1 | h1 | ⟨h1, h2⟩)
  · exact hne (List.length_eq_zero_iff.1 (by omega))
  · omega
  · by_cases h0 : 0 < n
    · exact dec_head n h0 h2
    · have : n = 0 := by omega
      subst this
      rw [Lib.decDigits_one (by omega)] at h1
      simp at h1
theorem dec_of : ∀ (k : Nat) (w : List UInt8) (m : Int), w.length = k → w ≠ [] → (1 < w.length → w.head? ≠ some 48) → numL 0 w = some m → ∃ n : Nat, m = n ∧ w = Lib.decDigits n := by
  intro k
  induction k with
  | zero => intro w m h1 h2; exact absurd (List.length_eq_zero_iff.1 h1) h2
  | succ k ih =>
    intro w m h1 h2 h3 h4
    have hsn := (List.dropLast_concat_getLast h2).symm
    obtain ⟨v, c, hw⟩ : ∃ v c, w = v ++ [c] := ⟨_, _, hsn⟩
    subst hw
    rw [numL_snoc] at h4
    cases hv : numL 0 v with
    | none => rw [hv] at h4; cases h4
    | some q =>
      rw [hv, Option.bind_some] at h4
      split at h4
      · rename_i hd
        injection h4 with h4
        simp only [isDig, Bool.and_eq_true, decide_eq_true_eq] at hd
        have hc : c = UInt8.ofNat (48 + (c.toNat - 48)) := by
          apply UInt8.toNat_inj.1
          rw [dig_nat (by omega)]
          omega
        by_cases hv0 : v = []
        · subst hv0
          simp [numL] at hv
          subst hv
          refine ⟨c.toNat - 48, by omega, ?_⟩
          rw [Lib.decDigits_one (by omega), ← hc]
          rfl
        · have hhead : (v ++ [c]).head? = v.head? := by cases v with
            | nil => exact absurd rfl hv0
            | cons x r => rfl
          obtain ⟨n, hn, hvn⟩ := ih v q (by simp at h1; omega) hv0 (fun h => by rw [← hhead]; exact h3 (by simp; omega)) hv
          have hq : 0 < n := by
            rcases Nat.eq_zero_or_pos n with h0 | h0
            · exfalso
              have hl : 1 < (v ++ [c]).length := by
                have := List.length_pos_iff.2 hv0
                simp
                omega
              apply h3 hl
              rw [hhead, hvn, h0, Lib.decDigits_one (by omega)]
              rfl
            · exact h0
          refine ⟨10 * n + (c.toNat - 48), by omega, ?_⟩
          rw [dec_big (n := 10 * n + (c.toNat - 48)) (by omega), show (10 * n + (c.toNat - 48)) / 10 = n from by omega, show (10 * n + (c.toNat - 48)) % 10 = c.toNat - 48 from by omega, ← hvn, ← hc]
      · cases h4
theorem numF_itoa {z : Int} (h0 : 0 ≤ z) (h1 : z < 10000000000000) : numF (Lib.itoa z) = some z := by
  obtain ⟨n, rfl⟩ : ∃ n : Nat, z = n := ⟨z.toNat, by omega⟩
  rw [Lib.itoa_nonneg]
  exact numF_dec (by have : (10 : Nat) ^ 13 = 10000000000000 := by decide
                     omega)
theorem itoa_of {w : List UInt8} {m : Int} (h : numF w = some m) : w = Lib.itoa m := by
  unfold numF at h
  split at h
  · cases h
  · rename_i hn
    obtain ⟨n, rfl, hw⟩ := dec_of w.length w m rfl (fun e => hn (.inl (by rw [e]; simp))) (fun h1 h2 => hn (.inr (.inr ⟨h1, h2⟩))) h
    rw [Lib.itoa_nonneg]
    exact hw
/-- pieces joined again -/
theorem splitL_join (c : UInt8) : ∀ (l w : List UInt8) (ws : List (List UInt8)), splitL c l = w :: ws → l = w ++ ws.flatMap (fun x => c :: x) := by
  intro l
  induction l with
  | nil => intro w ws h; simp [splitL] at h; obtain ⟨rfl, rfl⟩ := h; rfl
  | cons x r ih =>
    intro w ws h
    by_cases hx : x = c
    · rw [splitL, if_pos hx] at h
      injection h with h1 h2
      subst h1 h2 hx
      cases hs : splitL x r with
      | nil => exact absurd hs (splitL_ne _ _)
      | cons a t => rw [List.flatMap_cons, List.nil_append, List.cons_append, ← ih a t hs]
    · cases hs : splitL c r with
      | nil => exact absurd hs (splitL_ne _ _)
      | cons a t =>
        rw [splitL_cons_ne hx hs] at h
        injection h with h1 h2
        subst h1 h2
        rw [List.cons_append, ← ih a t hs]
theorem splitL_of (c : UInt8) : ∀ (ws : List (List UInt8)) (w : List UInt8), c ∉ w → (∀ x ∈ ws, c ∉ x) → splitL c (w ++ ws.flatMap (fun x => c :: x)) = w :: ws
  | [], w, h, _ => by rw [List.flatMap_nil, List.append_nil]; exact splitL_free h
  | x :: ws, w, h, hx => by
    rw [List.flatMap_cons, List.cons_append, splitL_app h, splitL_of c ws x (hx x (by simp)) (fun y hy => hx y (by simp [hy]))]
theorem not_mem_itoa {z : Int} (h0 : 0 ≤ z) (h1 : z < 10000000000000) {c : UInt8} (hc : isDig c = false) : c ∉ Lib.itoa z := dig_ne (numF_itoa h0 h1) hc
def okFact (x : Fact) : Prop := 0 ≤ x.1 ∧ x.1 < 64 ∧ 0 ≤ x.2 ∧ x.2 < 64
def wordF (x : Fact) : List UInt8 := Lib.itoa x.1 ++ 61 :: Lib.itoa x.2
theorem factB_word (x : Fact) : factB x = 32 :: wordF x := by simp [factB, wordF]
theorem factF_word {x : Fact} (h : okFact x) : factF (wordF x) = some x := by
  obtain ⟨h1, h2, h3, h4⟩ := h
  show factF (Lib.itoa x.1 ++ 61 :: Lib.itoa x.2) = some x
  rw [factF_cut (cut_app (not_mem_itoa h1 (by omega) (by decide))), numF_itoa h1 (by omega), numF_itoa h3 (by omega)]
  rfl
theorem factF_of {w : List UInt8} {x : Fact} (h : factF w = some x) : w = wordF x := by
  rcases cut_cases 61 w with ⟨_, e⟩ | ⟨a, r, _, e, e2⟩
  · rw [factF_cut e] at h
    cases hv : numF w <;> rw [hv] at h <;> cases h
  · rw [factF_cut e2] at h
    cases ha : numF a with
    | none => rw [ha] at h; cases h
    | some v =>
      cases hr : numF r with
      | none => rw [ha, hr] at h; cases h
      | some y =>
        rw [ha, hr] at h
        injection h with h
        rw [e, ← h, wordF, ← itoa_of ha, ← itoa_of hr]
theorem factsF_words : ∀ (fs : List Fact), (∀ x ∈ fs, okFact x) → factsF (fs.map wordF) = some fs
  | [], _ => rfl
  | x :: r, h => by rw [List.map_cons, factsF, factF_word (h x (by simp)), factsF_words r (fun y hy => h y (by simp [hy]))]
theorem factsF_of : ∀ (ws : List (List UInt8)) (fs : List Fact), factsF ws = some fs → ws = fs.map wordF
  | [], fs, h => by simp [factsF] at h; subst h; rfl
  | w :: ws, fs, h => by
    rw [factsF] at h
    split at h
    · rename_i f gs hf hg
      injection h with h
      subst h
      rw [List.map_cons, ← factF_of hf, ← factsF_of ws gs hg]
    · cases h
theorem factB_flat (fs : List Fact) : fs.flatMap factB = (fs.map wordF).flatMap (fun x => 32 :: x) := by
  induction fs with
  | nil => rfl
  | cons x r ih => rw [List.flatMap_cons, List.map_cons, List.flatMap_cons, ih, factB_word]
def okDist (z : Int) : Prop := 0 ≤ z ∧ z < 10000000000000
def bodyN (x : Nogood) : List UInt8 := kNogood ++ ((Lib.itoa x.2 ++ [58]) :: x.1.map wordF).flatMap (fun x => 32 :: x)
theorem nogoodB_body (x : Nogood) : nogoodB x = bodyN x ++ [10] := by
  rw [nogoodB, bodyN, lineB, factB_flat, List.flatMap_cons]
  simp [kNogood]
theorem word_free {x : Fact} (h : okFact x) {c : UInt8} (hc : isDig c = false) (h61 : c ≠ 61) : c ∉ wordF x := by
  obtain ⟨h1, h2, h3, h4⟩ := h
  simp only [wordF, List.mem_append, List.mem_cons, not_or]
  exact ⟨not_mem_itoa h1 (by omega) hc, h61, not_mem_itoa h3 (by omega) hc⟩
theorem nogoodF_body {x : Nogood} (hf : ∀ y ∈ x.1, okFact y) (hd : okDist x.2) : nogoodF (bodyN x) = some x := by
  rw [nogoodF, bodyN, splitL_of 32 _ kNogood (by decide) (by
    intro w hw
    rcases List.mem_cons.1 hw with rfl | hw
    · simp only [List.mem_append, List.mem_singleton, not_or]
      exact ⟨not_mem_itoa hd.1 hd.2 (by decide), by decide⟩
    · obtain ⟨y, hy, rfl⟩ := List.mem_map.1 hw
      exact word_free (hf y hy) (by decide) (by decide))]
  show nogW kNogood (Lib.itoa x.2 ++ [58]) (x.1.map wordF) = some x
  rw [nogW, if_pos ⟨rfl, by simp⟩, List.dropLast_concat, numF_itoa hd.1 hd.2, factsF_words _ hf]
theorem nogoodF_of {l : List UInt8} {x : Nogood} (h : nogoodF l = some x) : l = bodyN x := by
  rw [nogoodF] at h
  split at h
  · rename_i w0 w1 ws hsp
    rw [nogW] at h
    split at h
    · rename_i hc
      split at h
      · rename_i d fs hd hf
        injection h with h
        rw [splitL_join 32 l w0 (w1 :: ws) hsp, hc.1, bodyN, ← h, ← factsF_of ws fs hf, ← itoa_of hd, ← last_split hc.2]
      · cases h
    · cases h
  · cases h
def headL (b : Int) : List UInt8 := if b < 0 then kUnsolv else kLower ++ 32 :: Lib.itoa b
theorem headB_line (b : Int) : headB b = headL b ++ [10] := by
  rw [headB, headL]
  split <;> simp [kUnsolv, kLower]
theorem headF_line {b : Int} (h1 : -1 ≤ b) (h2 : b < 10000000000000) : headF (headL b) = some b := by
  rw [headF, headL]
  by_cases h : b < 0
  · rw [if_pos h, if_pos rfl]
    congr 1
    omega
  · rw [if_neg h, if_neg (by simp [kLower, kUnsolv]), splitL_app (by decide), splitL_free (not_mem_itoa (by omega) h2 (by decide))]
    show (if kLower = kLower then numF (Lib.itoa b) else none) = _
    rw [if_pos rfl, numF_itoa (by omega) h2]
theorem headF_of {l : List UInt8} {b : Int} (h : headF l = some b) : l = headL b := by
  rw [headF] at h
  split at h
  · rename_i e
    injection h with h
    rw [e, headL, if_pos (by omega)]
  · split at h
    · rename_i w0 w1 hsp
      split at h
      · rename_i e
        have hb := (numF_bound h).1
        rw [splitL_join 32 l w0 [w1] hsp, e, headL, if_neg (by omega), ← itoa_of h]
        simp
      · cases h
    · cases h
theorem runF_bodies : ∀ (gs : List Nogood) (i : Nat) (b : Int) (acc : List Nogood), 0 < i → (∀ g ∈ gs, (∀ y ∈ g.1, okFact y) ∧ okDist g.2) → runF i (b, acc) (gs.map bodyN) = .inl (b, acc ++ gs)
  | [], i, b, acc, _, _ => by rw [List.map_nil, runF, List.append_nil]
  | g :: r, i, b, acc, hi, h => by
    have hg := h g (by simp)
    rw [List.map_cons, runF, stepF, if_neg (by omega), nogoodF_body hg.1 hg.2]
    show runF (i + 1) (b, acc ++ [g]) (r.map bodyN) = _
    rw [runF_bodies r (i + 1) b _ (by omega) (fun x hx => h x (by simp [hx])), List.append_assoc]
    rfl
theorem runF_of : ∀ (ls : List (List UInt8)) (i : Nat) (b b' : Int) (acc gs : List Nogood), 0 < i → runF i (b, acc) ls = .inl (b', gs) → b' = b ∧ ∃ r, gs = acc ++ r ∧ ls = r.map bodyN
  | [], i, b, b', acc, gs, _, h => by
    rw [runF] at h
    injection h with h
    injection h with h1 h2
    exact ⟨h1.symm, [], by rw [h2, List.append_nil], rfl⟩
  | l :: ls, i, b, b', acc, gs, hi, h => by
    rw [runF, stepF, if_neg (by omega)] at h
    cases hn : nogoodF l with
    | none => rw [hn] at h; cases h
    | some g =>
      rw [hn] at h
      obtain ⟨h1, r, h2, h3⟩ := runF_of ls (i + 1) b b' (acc ++ [g]) gs (by omega) h
      exact ⟨h1, g :: r, by rw [h2, List.append_assoc]; rfl, by rw [h3, nogoodF_of hn]; rfl⟩
theorem split_lines : ∀ (ls : List (List UInt8)), (∀ l ∈ ls, (10 : UInt8) ∉ l) → splitL 10 (ls.flatMap (fun l => l ++ [10])) = ls ++ [[]]
  | [], _ => rfl
  | l :: ls, h => by
    rw [List.flatMap_cons, List.append_assoc, List.singleton_append, splitL_app (h l (by simp)), split_lines ls (fun x hx => h x (by simp [hx]))]
    rfl
theorem lines_join : ∀ (ls : List (List UInt8)) (t : List UInt8), splitL 10 t = ls ++ [[]] → t = ls.flatMap (fun l => l ++ [10])
  | [], t, h => by have := splitL_join 10 t [] [] h; simpa using this
  | l :: ls, t, h => by
    rcases splitL_cases 10 t with ⟨_, e⟩ | ⟨a, r, _, e, e2⟩
    · rw [e] at h
      have := congrArg List.length h
      simp at this
    · rw [e2] at h
      injection h with h1 h2
      rw [e, h1, List.flatMap_cons, ← lines_join ls r h2]
      simp
theorem text_lines (b : Int) (gs : List Nogood) : headB b ++ gs.flatMap nogoodB = (headL b :: gs.map bodyN).flatMap (fun l => l ++ [10]) := by
  rw [List.flatMap_cons, headB_line]
  congr 1
  induction gs with
  | nil => rfl
  | cons g r ih => rw [List.flatMap_cons, List.map_cons, List.flatMap_cons, ih, nogoodB_body]
theorem formed_ok : ∀ (l : List Fact) (k : Nat) (p : Int), formedL k p l = true → ∀ x ∈ l, okFact x
  | [], _, _, _, x, hx => by cases hx
  | (a, b) :: r, k, p, h, x, hx => by
    rw [formedL] at h
    split at h
    · cases h
    · rename_i hb
      simp only [badB, Bool.or_eq_true, Bool.and_eq_true, decide_eq_true_eq, not_or] at hb
      rcases List.mem_cons.1 hx with rfl | hx
      · exact ⟨by show 0 ≤ a; omega, by show a < 64; omega, by show 0 ≤ b; omega, by show b < 64; omega⟩
      · exact formed_ok r (k + 1) a h x hx
theorem check_ok {b : Int} {l : List Nogood} (h : checkF b l = 0) : -1 ≤ b ∧ b < 10000000000000 ∧ ∀ g ∈ l, (∀ y ∈ g.1, okFact y) ∧ okDist g.2 := by
  unfold checkF at h
  split at h
  · cases h
  · rename_i hb
    split at h
    · cases h
    · split at h
      · cases h
      · rename_i hf
        split at h
        · cases h
        · rename_i hd
          refine ⟨by omega, by omega, fun g hg => ⟨fun y hy => ?_, ?_⟩⟩
          · have hf2 : l.all (fun x => formedF x.1) = true := by simpa using hf
            exact formed_ok g.1 0 0 (List.all_eq_true.1 hf2 g hg) y hy
          · have hd2 : l.any (fun x => badDist b x.2) = false := by simpa using hd
            have := List.any_eq_false.1 hd2 g hg
            simp only [badDist, Bool.or_eq_true, Bool.and_eq_true, decide_eq_true_eq, bne_iff_ne, ne_eq, not_or] at this
            exact ⟨by omega, by omega⟩
theorem formatL_of : ∀ (l : List Nogood) (acc t : List UInt8), formatL acc l = some t → t = acc ++ l.flatMap nogoodB ∧ (l ≠ [] → t.length ≤ 65536)
  | [], acc, t, h => by simp [formatL] at h; subst h; exact ⟨by simp, fun h => absurd rfl h⟩
  | x :: r, acc, t, h => by
    rw [formatL] at h
    split at h
    · cases h
    · rename_i hl
      obtain ⟨h1, h2⟩ := formatL_of r _ t h
      refine ⟨by rw [h1, List.flatMap_cons, List.append_assoc], fun _ => ?_⟩
      by_cases hr : r = []
      · subst hr
        rw [h1]
        simp at hl ⊢
        omega
      · exact h2 hr
theorem free10 {b : Int} {l : List Nogood} (h : checkF b l = 0) : ∀ w ∈ headL b :: l.map bodyN, (10 : UInt8) ∉ w := by
  obtain ⟨h1, h2, h3⟩ := check_ok h
  intro w hw
  rcases List.mem_cons.1 hw with rfl | hw
  · rw [headL]
    split
    · decide
    · simp only [List.mem_append, List.mem_cons, not_or]
      exact ⟨by decide, by decide, not_mem_itoa (by omega) h2 (by decide)⟩
  · obtain ⟨g, hg, rfl⟩ := List.mem_map.1 hw
    obtain ⟨h4, h5⟩ := h3 g hg
    rw [bodyN]
    simp only [List.mem_append, List.mem_flatMap, not_or, not_exists, not_and]
    refine ⟨by decide, fun x hx => ?_⟩
    rcases List.mem_cons.1 hx with rfl | hx
    · simp only [List.mem_append, List.mem_cons, not_or]
      exact ⟨by decide, not_mem_itoa h5.1 h5.2 (by decide), by decide, by simp⟩
    · obtain ⟨y, hy, rfl⟩ := List.mem_map.1 hx
      simp only [List.mem_cons, not_or]
      exact ⟨by decide, word_free (h4 y hy) (by decide) (by decide)⟩
/-- what Format writes, Parse reads -/
theorem parse_format {b : Int} {l : List Nogood} {t : List UInt8} (h : formatF b l = (t, 0)) : parseF t = ({ Bound := b, Nogoods := l }, 0, 0) := by
  unfold formatF at h
  by_cases hc : checkF b l = 0
  · rw [if_neg (by omega)] at h
    cases hf : formatL (headB b) l with
    | none => rw [hf] at h; injection h with _ h; cases h
    | some t' =>
      rw [hf] at h
      injection h with h _
      subst h
      obtain ⟨h1, h2⟩ := formatL_of l _ _ hf
      obtain ⟨c1, c2, c3⟩ := check_ok hc
      have hlen : ¬ t'.length > 65536 := by
        by_cases hl : l = []
        · have hh : (headB b).length ≤ 29 := headB_len b (by unfold checkF at hc; split at hc; cases hc; omega)
          rw [h1, hl]
          simp
          omega
        · have := h2 hl
          omega
      have hsp : splitL 10 t' = (headL b :: l.map bodyN) ++ [[]] := by rw [h1, text_lines]; exact split_lines _ (free10 hc)
      rw [parseF, if_neg hlen, hsp, List.dropLast_concat, last_dec, runF, stepF, if_pos rfl, headF_line c1 c2]
      have hrun := runF_bodies l 1 b [] (by omega) c3
      rw [List.nil_append] at hrun
      show (match runF (0 + 1) (b, []) (l.map bodyN) with | .inr i => (zeroC, ((i + 1 : Nat) : Int), 2) | .inl st => if ([] : List UInt8) = [] ∧ 0 < (headL b :: l.map bodyN).length then (if checkF st.1 st.2 = 0 then (({ Bound := st.1, Nogoods := st.2 } : GCertificate), (0 : Int), (0 : Int)) else (zeroC, 0, checkF st.1 st.2)) else (zeroC, (((headL b :: l.map bodyN).length + 1 : Nat) : Int), 2)) = _
      rw [hrun]
      show (if ([] : List UInt8) = [] ∧ 0 < (headL b :: l.map bodyN).length then (if checkF b l = 0 then (({ Bound := b, Nogoods := l } : GCertificate), (0 : Int), (0 : Int)) else (zeroC, 0, checkF b l)) else (zeroC, (((headL b :: l.map bodyN).length + 1 : Nat) : Int), 2)) = _
      rw [if_pos ⟨rfl, by simp⟩, if_pos hc]
  · rw [if_pos hc] at h
    injection h with _ h
    exact absurd h hc
theorem formatL_fit : ∀ (l : List Nogood) (acc : List UInt8), acc.length + (l.flatMap nogoodB).length ≤ 65536 → formatL acc l = some (acc ++ l.flatMap nogoodB)
  | [], acc, _ => by simp [formatL]
  | x :: r, acc, h => by
    rw [List.flatMap_cons, List.length_append] at h
    rw [formatL, if_neg (by rw [List.length_append]; omega), formatL_fit r _ (by rw [List.length_append]; omega), List.flatMap_cons, List.append_assoc]
/-- what Parse accepts, Format writes -/
theorem format_parse {t : List UInt8} {c : GCertificate} {n : Int} (h : parseF t = (c, n, 0)) : formatF c.Bound c.Nogoods = (t, 0) := by
  rw [parseF] at h
  split at h
  · injection h with _ h; injection h with _ h; cases h
  · rename_i hlen
    obtain ⟨ls, rem, hp⟩ := pieces_last t
    rw [hp, List.dropLast_concat, last_dec] at h
    cases hr : runF 0 (0, []) ls with
    | inr i => rw [hr] at h; injection h with _ h; injection h with _ h; cases h
    | inl st =>
      rw [hr] at h
      simp only at h
      split at h
      · rename_i hrem
        split at h
        · rename_i hc
          injection h with h _
          subst h
          obtain ⟨b, gs⟩ := st
          have hc : checkF b gs = 0 := hc
          show formatF b gs = (t, 0)
          rw [hrem.1] at hp
          have ht := lines_join ls t hp
          have htext : t = headB b ++ gs.flatMap nogoodB := by
            cases ls with
            | nil => exact absurd hrem.2 (by simp)
            | cons l ls =>
              rw [runF, stepF, if_pos rfl] at hr
              cases hh : headF l with
              | none => rw [hh] at hr; cases hr
              | some b' =>
                rw [hh] at hr
                obtain ⟨e1, r, e2, e3⟩ := runF_of ls (0 + 1) b' b [] gs (by omega) hr
                rw [List.nil_append] at e2
                rw [ht, text_lines, e1, e2, ← e3, headF_of hh]
          rw [formatF, if_neg (by omega), formatL_fit gs (headB b) (by have := congrArg List.length htext; rw [List.length_append] at this; omega), ← htext]
        · rename_i hc
          injection h with _ h
          injection h with _ h
          exact absurd h hc
      · injection h with _ h; injection h with _ h; cases h
end Go.Proofs.YticdfbhbbapbdaaDoor.Am
/- The law of CertificateReturns, as the model reads it, is always true. -/
namespace Go.Proofs.YticdfbhbbapbdaaDoor.Am
open Go.RowKit
theorem small_parse {s : ByteArray} {c : GCertificate} {n z : Int} (hbig : ¬ (s.size : Int) > 3000) (hc : parseF (bl s) = (c, n, z)) : smallN c.Nogoods = true := by
  rw [parseF, bl_len, if_neg (by omega)] at hc
  obtain ⟨ls, rem, hp⟩ := pieces_last (bl s)
  have hlen := splitL_len_le 10 (bl s)
  rw [bl_len, hp] at hlen
  simp at hlen
  have hml : ∀ w ∈ ls, w.length ≤ 65536 := fun w hw => by have := splitL_mem_len (c := 10) (l := bl s) (w := w) (by rw [hp]; simp [hw]); rw [bl_len] at this; omega
  rw [hp, List.dropLast_concat] at hc
  cases hr : runF 0 (0, []) ls with
  | inr i => rw [hr] at hc; injection hc with hc _; rw [← hc]; rfl
  | inl st =>
    rw [hr] at hc
    have hs2 := (small_of hml (by omega) hr).1
    simp only at hc
    split at hc
    · split at hc
      · injection hc with hc _; rw [← hc]; exact hs2
      · injection hc with hc _; rw [← hc]; rfl
    · injection hc with hc _; rw [← hc]; rfl
theorem erM_erOf {α : Type} {z : Int} {a : Option α} {b : Unit → Option α} : erM (erOf z) a (fun _ => b ()) = if z = 0 then a else b () := by
  unfold erOf
  by_cases h : z = 0
  · rw [if_pos h, if_pos h]; rfl
  · rw [if_neg h, if_neg h]; rfl
theorem returns_true (c : GCertificate) (s : ByteArray) (hsm : smallN c.Nogoods = true) : M_stratagemlaw30_CertificateReturns c s = some true := by
  rw [M_stratagemlaw30_CertificateReturns, M_stratagemlaw30_large, grd_t hsm, ob1_some]
  cases largeF c.Nogoods with
  | true => rfl
  | false =>
    rw [sel_ff, sel_dec]
    by_cases hbig : (s.size : Int) > 3000
    · rw [if_pos hbig]; rfl
    · rw [if_neg hbig, M_awake, ob1_some]
      show ob2 (M_certificate_Format c) _ = _
      rw [M_certificate_Format, grd_t hsm]
      simp only [ob2_some]
      obtain ⟨t, e, hf⟩ : ∃ t e, formatF c.Bound c.Nogoods = (t, e) := ⟨_, _, rfl⟩
      have hlast : ob3 (M_certificate_Parse s) (fun z29 _ z31 =>
          erM z31
           (ob2 (M_certificate_Format z29) (fun z33 z34 =>
             erM z34
              (some (z33.toList == s.toList))
              (fun _ => some false)))
           (fun _ => some true)) = some true := by
        rw [progparse_eq]
        obtain ⟨c', n, z, hc⟩ : ∃ c n z, parseF (bl s) = (c, n, z) := ⟨_, _, _, rfl⟩
        rw [hc]
        simp only [ob3_some]
        by_cases hz : z = 0
        · subst hz
          have h2 := format_parse hc
          show ob2 (M_certificate_Format c') _ = _
          rw [M_certificate_Format, grd_t (small_parse hbig hc), h2]
          simp only [ob2_some]
          show some ((⟨(bl s).toArray⟩ : ByteArray).toList == s.toList) = some true
          have : (⟨(bl s).toArray⟩ : ByteArray) = s := by simp [bl]
          rw [this]
          simp
        · rw [erOf, if_neg hz]; rfl
      rw [hf]
      by_cases he : e = 0
      · subst he
        have h1 := parse_format hf
        have hbl : bl (⟨t.toArray⟩ : ByteArray) = t := by simp [bl]
        show ob1 (ob3 (M_certificate_Parse ⟨t.toArray⟩) _) _ = _
        rw [progparse_eq, hbl, h1]
        simp only [ob3_some]
        show ob1 (ob1 (M_stratagemlaw30_Same { Bound := c.Bound, Nogoods := c.Nogoods } c) _) _ = _
        rw [M_stratagemlaw30_Same, grd_t hsm, grd_t hsm, sameC_self]
        exact hlast
      · rw [erOf, if_neg he]
        exact hlast
end Go.Proofs.YticdfbhbbapbdaaDoor.Am
/- Opening arguments: slices of numbers, of facts, of nogoods, a certificate. -/
namespace Go.Proofs.YticdfbhbbapbdaaDoor
open Go.RowKit Go.ChangeShapes Go.WideShapes Go.Deep Go.Joins

def I64 (x : Int) : Prop := -9223372036854775808 ≤ x ∧ x ≤ 9223372036854775807
theorem I64.of {x : Int} (h : (Lit.int .i64 x).wf = true) : I64 x := by
  have := bounds_i64 h
  exact this

section
variable {H : Type} {enc : TypeId × Value → H} {P : Program} {w : World} {base : Nat} {spare : Nat → Bool} {held : Bool}

/-- within the form's reach -/
def Sized (P : Program) (t : TypeId) (d : DataW H) : Prop := ∀ n ∈ d.weights P t, n ≤ reachBytes
theorem sized_arg {ts : List TypeId} {ds : List (DataW H)} (h : (DataW.weightsEach P ts ds).all (· ≤ reachBytes) = true) {j : Nat} {t : TypeId} {d : DataW H} (ht : ts[j]? = some t) (hd : ds[j]? = some d) : Sized P t d :=
  fun n hn => of_decide_eq_true (List.all_eq_true.1 h n (DataW.weights_mem_each ht hd n hn))
theorem sized_field {t : TypeId} {fs : Array Field} {parts : List (DataW H)} (h : Sized P t (.agg parts)) (hu : P.underlying t = some (.struct fs)) {j : Nat} {f : Field} {d : DataW H} (hf : fs[j]? = some f) (hd : parts[j]? = some d) : Sized P f.type d :=
  fun n hn => h n (by
    simp only [DataW.weights, hu]
    exact DataW.weights_mem_each (j := j) (by simp [List.getElem?_map, hf]) hd n hn)
theorem weightsAll_mem {e : TypeId} : ∀ {l : List (DataW H)} {d : DataW H}, d ∈ l → ∀ n ∈ d.weights P e, n ∈ DataW.weightsAll P e l
  | x :: l, d, hd, n, hn => by
    simp only [DataW.weightsAll, List.mem_append]
    rcases List.mem_cons.1 hd with rfl | h
    · exact Or.inl hn
    · exact Or.inr (weightsAll_mem h n hn)
theorem sized_elem {t e : TypeId} {elems sp : List (DataW H)} (h : Sized P t (.slice elems sp)) (hu : P.underlying t = some (.slice e)) {d : DataW H} (hd : d ∈ elems) : Sized P e d :=
  fun n hn => h n (by
    simp only [DataW.weights, hu, List.mem_cons, List.mem_append]
    exact Or.inr (Or.inl (weightsAll_mem hd n hn)))
theorem sized_len {t e : TypeId} {elems sp : List (DataW H)} (h : Sized P t (.slice elems sp)) (hu : P.underlying t = some (.slice e)) : elems.length * P.bytesOf e ≤ 140737488355328 := by
  have h1 := h ((elems.length + sp.length) * P.bytesOf e) (by simp [DataW.weights, hu])
  have h2 : elems.length * P.bytesOf e ≤ (elems.length + sp.length) * P.bytesOf e := Nat.mul_le_mul_right _ (by omega)
  have h3 : reachBytes ≤ 140737488355328 := by decide
  omega

theorem open_slice_fields {t e : TypeId} {fs : Array Field} {fuel : Nat} {cs : List Value} {x : DataW H × List MemPlace} (ht : P.underlying t = some (.slice e)) (he : P.underlying e = some (.struct fs))
    (hone : oneCellFields P fs = true) (hC : P.cellsOf e = fs.size) (h : DataW.trod enc P w base spare held fuel t cs = some x) :
    (cs = [.slice none 0 0] ∧ x = (.nil, [])) ∨
    ∃ (a : Addr) (len cap m : Nat) (D : Nat → DataW H) (Pl : Nat → List MemPlace), cs = [.slice (some a) len cap] ∧ base ≤ a.block ∧ len ≤ cap ∧ cap ≤ maxLen ∧ m = (if spare a.block then cap else len) ∧
      x = (.slice ((List.range len).map D) ((List.range (m - len)).map fun j => D (len + j)), MemPlace.row a (m * fs.size) ++ (List.range m).flatMap Pl) ∧
      ∀ i, i < m → ∃ (ys : List (DataW H × List MemPlace)) (n : Nat), D i = .agg (ys.map (·.1)) ∧ Pl i = ys.flatMap (·.2) ∧ ys.length = fs.size ∧
        ∀ (j : Nat) (f : Field), fs[j]? = some f → ∃ (v : Value) (y : DataW H × List MemPlace), w.cell? (a.add (i * fs.size + j)) = some v ∧ ys[j]? = some y ∧ DataW.trod enc P w base spare held n f.type [v] = some y := by
  rcases open_slice ht h with h0 | ⟨a, len, cap, m, n, D, Pl, hcs, hb, hl, hm, hmm, hx, hi⟩
  · exact .inl h0
  · refine .inr ⟨a, len, cap, m, D, Pl, hcs, hb, hl, hm, hmm, by rw [hC] at hx; exact hx, fun i him => ?_⟩
    obtain ⟨cs', hc, ht'⟩ := hi i him
    rw [hC] at hc
    obtain ⟨ys, n', hn', hy, hlen, hyl, hf⟩ := DataW.trod_struct he ht'
    obtain ⟨_, hcl, hat⟩ := World.cells?_some hc
    simp only [Prod.mk.injEq] at hy
    refine ⟨ys, n', hy.1, hy.2, hyl, fun j f hj => ?_⟩
    obtain ⟨ho, hk⟩ := hone_of hone j f hj
    have hjl : j < fs.size := (Array.getElem?_eq_some_iff.1 hj).1
    have hcell := hat j hjl
    have hv : cs'[j]? = some (cs'[j]'(by omega)) := List.getElem?_eq_getElem (by omega)
    have h1 := hf j f hj
    rw [ho, hk] at h1
    have hone' : (cs'.drop j).take 1 = [cs'[j]'(by omega)] := by
      rw [List.drop_eq_getElem_cons (by omega)]
      rfl
    rw [hone'] at h1
    have hys : ys[j]? = some (ys[j]'(by omega)) := List.getElem?_eq_getElem (by omega)
    refine ⟨_, _, ?_, hys, h1.trans hys⟩
    rw [← Go.Deep.add_add, hcell, hv]
end

theorem spot_of_cell {w : World} {p : Addr} {v : Value} (h : w.cell? p = some v) : p.spot = none := by
  unfold World.cell? at h
  split at h
  · split at h
    · cases h
    · rename_i hs; simpa using hs
  · cases h
theorem addr_of_cell {w : World} {a : Addr} {k : Nat} {v : Value} (h0 : ∃ u, w.cell? (a.add 0) = some u) (h : w.cell? (a.add k) = some v) : a = ⟨a.block, a.off, none⟩ ∧ w.cell? ⟨a.block, a.off + k, none⟩ = some v := by
  obtain ⟨u, hu⟩ := h0
  have hs := spot_of_cell hu
  obtain ⟨b, off, sp⟩ := a
  simp [Addr.add] at hs
  subst hs
  refine ⟨rfl, ?_⟩
  rw [← h]
  congr 1
  unfold Addr.add
  split
  · subst k; rfl
  · rfl

theorem list_of {α : Type} (n : Nat) (R : Nat → α → Prop) (h : ∀ i, i < n → ∃ x, R i x) : ∃ l : List α, l.length = n ∧ ∀ k x, l[k]? = some x → R k x := by
  induction n with
  | zero => exact ⟨[], rfl, fun k x hx => by simp at hx⟩
  | succ n ih =>
    obtain ⟨l, hl, hr⟩ := ih (fun i hi => h i (by omega))
    obtain ⟨x, hx⟩ := h n (by omega)
    refine ⟨l ++ [x], by simp [hl], fun k y hy => ?_⟩
    by_cases hk : k < n
    · rw [List.getElem?_append_left (by omega)] at hy
      exact hr k y hy
    · rw [List.getElem?_append_right (by omega)] at hy
      have hk' : k - l.length = 0 := by
        have := (List.getElem?_eq_some_iff.1 hy).1
        simp at this
        omega
      rw [hk'] at hy
      simp at hy
      subst hy
      obtain rfl : k = n := by omega
      exact hx

variable {H : Type} {enc : TypeId × Value → H} {w : World} {base : Nat} {spare : Nat → Bool} {held : Bool}
theorem open_intsAt {fuel : Nat} {v : Value} {x : DataW H × List MemPlace} (h : DataW.trod enc Tryd.prog w base spare held fuel 36 [v] = some x) (hs : Sized Tryd.prog 36 x.1) : ∃ l, IntsAt w v l ∧ ∀ z ∈ l, I64 z := by
  rcases open_slice Tryd.underlying36 h with ⟨hv, _⟩ | ⟨a, len, cap, m, n, D, Pl, hcs, hb, hl, hm, hmm, hx, hi⟩
  · injection hv with hv
    subst hv
    exact ⟨[], ⟨none, 0, rfl, by simp, fun k x hx => by simp at hx⟩, fun z hz => by cases hz⟩
  · injection hcs with hcs
    subst hcs
    subst hx
    have hlen := sized_len hs Tryd.underlying36
    have hby : Tryd.prog.bytesOf 3 = 8 := by kernel_rfl
    have hcl : Tryd.prog.cellsOf 3 = 1 := by kernel_rfl
    simp only [List.length_map, List.length_range, hby] at hlen
    have hml : len ≤ m := by rw [hmm]; split <;> omega
    have hcell : ∀ i, i < len → ∃ z, w.cell? (a.add i) = some (.int .i64 z) ∧ I64 z := by
      intro i hi'
      obtain ⟨cs', hc, ht'⟩ := hi i (by omega)
      rw [hcl] at hc
      obtain ⟨z, hz, _, wz⟩ := DataW.trod_int Tryd.underlying3 ht'
      obtain ⟨_, hcl', hat⟩ := World.cells?_some hc
      subst hz
      have := hat 0 (by omega)
      simp [Go.Deep.add_add] at this
      exact ⟨z, this, I64.of wz⟩
    obtain ⟨l, hl', hat⟩ := list_of len (fun i z => w.cell? (a.add i) = some (.int .i64 z) ∧ I64 z) hcell
    refine ⟨l, ⟨some a, cap, by rw [hl'], by rw [hl']; exact hlen, fun k x hx => ?_⟩, fun z hz => ?_⟩
    · obtain ⟨z0, h0, _⟩ := hcell 0 (by have := (List.getElem?_eq_some_iff.1 hx).1; omega)
      obtain ⟨e1, e2⟩ := addr_of_cell ⟨_, h0⟩ (hat k x hx).1
      exact ⟨a.block, a.off, by rw [← e1], e2⟩
    · obtain ⟨k, hk⟩ := List.getElem?_of_mem hz
      exact (hat k z hk).2
theorem open_factsAt {fuel : Nat} {v : Value} {x : DataW H × List MemPlace} (h : DataW.trod enc Tryd.prog w base spare held fuel 43 [v] = some x) (hs : Sized Tryd.prog 43 x.1) : ∃ l, FactsAt w v l ∧ ∀ z ∈ l, I64 z.1 ∧ I64 z.2 := by
  rcases open_slice_fields Tryd.underlying43 Tryd.underlying54 (by kernel_rfl) (by kernel_rfl) h with ⟨hv, _⟩ | ⟨a, len, cap, m, D, Pl, hcs, hb, hl, hm, hmm, hx, hi⟩
  · injection hv with hv
    subst hv
    exact ⟨[], ⟨none, 0, rfl, by simp, fun k x hx => by simp at hx⟩, fun z hz => by cases hz⟩
  · injection hcs with hcs
    subst hcs
    subst hx
    have hlen := sized_len hs Tryd.underlying43
    have hby : Tryd.prog.bytesOf 54 = 16 := by kernel_rfl
    simp only [List.length_map, List.length_range, hby] at hlen
    have hml : len ≤ m := by rw [hmm]; split <;> omega
    have hcell : ∀ i, i < len → ∃ z : Fact, (w.cell? (a.add (i * 2 + 0)) = some (.int .i64 z.1) ∧ w.cell? (a.add (i * 2 + 1)) = some (.int .i64 z.2)) ∧ I64 z.1 ∧ I64 z.2 := by
      intro i hi'
      obtain ⟨ys, n', _, _, hyl, hf⟩ := hi i (by omega)
      obtain ⟨v0, y0, c0, _, t0⟩ := hf 0 _ rfl
      obtain ⟨v1, y1, c1, _, t1⟩ := hf 1 _ rfl
      obtain ⟨z0, hz0, _, wz0⟩ := DataW.trod_int Tryd.underlying3 t0
      obtain ⟨z1, hz1, _, wz1⟩ := DataW.trod_int Tryd.underlying3 t1
      injection hz0 with hz0
      injection hz1 with hz1
      subst hz0 hz1
      exact ⟨(z0, z1), ⟨c0, c1⟩, I64.of wz0, I64.of wz1⟩
    obtain ⟨l, hl', hat⟩ := list_of len (fun i (z : Fact) => (w.cell? (a.add (i * 2 + 0)) = some (.int .i64 z.1) ∧ w.cell? (a.add (i * 2 + 1)) = some (.int .i64 z.2)) ∧ I64 z.1 ∧ I64 z.2) hcell
    refine ⟨l, ⟨some a, cap, by rw [hl'], by rw [hl']; exact hlen, fun k x hx => ?_⟩, fun z hz => ?_⟩
    · obtain ⟨z0, ⟨h0, _⟩, _⟩ := hcell 0 (by have := (List.getElem?_eq_some_iff.1 hx).1; omega)
      obtain ⟨e1, e2⟩ := addr_of_cell ⟨_, h0⟩ (hat k x hx).1.1
      obtain ⟨_, e3⟩ := addr_of_cell ⟨_, h0⟩ (hat k x hx).1.2
      exact ⟨a.block, a.off, by rw [← e1], e2, e3⟩
    · obtain ⟨k, hk⟩ := List.getElem?_of_mem hz
      exact (hat k z hk).2
theorem open_nogoodsAt {fuel : Nat} {v : Value} {x : DataW H × List MemPlace} (h : DataW.trod enc Tryd.prog w base spare held fuel 23 [v] = some x) (hs : Sized Tryd.prog 23 x.1) : ∃ l, NogoodsAt w v l ∧ ∀ z ∈ l, I64 z.2 ∧ ∀ f ∈ z.1, I64 f.1 ∧ I64 f.2 := by
  rcases open_slice_fields Tryd.underlying23 Tryd.underlying45 (by kernel_rfl) (by kernel_rfl) h with ⟨hv, _⟩ | ⟨a, len, cap, m, D, Pl, hcs, hb, hl, hm, hmm, hx, hi⟩
  · injection hv with hv
    subst hv
    exact ⟨[], ⟨none, 0, rfl, by simp, fun k x hx => by simp at hx⟩, fun z hz => by cases hz⟩
  · injection hcs with hcs
    subst hcs
    subst hx
    have hlen := sized_len hs Tryd.underlying23
    have hby : Tryd.prog.bytesOf 45 = 32 := by kernel_rfl
    simp only [List.length_map, List.length_range, hby] at hlen
    have hml : len ≤ m := by rw [hmm]; split <;> omega
    have hcell : ∀ i, i < len → ∃ z : Nogood, (∃ fv, w.cell? (a.add (i * 2 + 0)) = some fv ∧ FactsAt w fv z.1 ∧ w.cell? (a.add (i * 2 + 1)) = some (.int .i64 z.2)) ∧ I64 z.2 ∧ ∀ f ∈ z.1, I64 f.1 ∧ I64 f.2 := by
      intro i hi'
      obtain ⟨ys, n', hD, _, hyl, hf⟩ := hi i (by omega)
      have hsi : Sized Tryd.prog 45 (D i) := sized_elem hs Tryd.underlying23 (List.mem_map.2 ⟨i, by simpa using hi', rfl⟩)
      rw [hD] at hsi
      obtain ⟨v0, y0, c0, hy0, t0⟩ := hf 0 _ rfl
      obtain ⟨v1, y1, c1, _, t1⟩ := hf 1 _ rfl
      obtain ⟨fl, hfl, hfw⟩ := open_factsAt t0 (sized_field hsi Tryd.underlying45 (j := 0) rfl (by simp [hy0]))
      obtain ⟨z1, hz1, _, wz1⟩ := DataW.trod_int Tryd.underlying3 t1
      injection hz1 with hz1
      subst hz1
      exact ⟨(fl, z1), ⟨v0, c0, hfl, c1⟩, I64.of wz1, hfw⟩
    obtain ⟨l, hl', hat⟩ := list_of len _ hcell
    refine ⟨l, ⟨some a, cap, by rw [hl'], by rw [hl']; exact hlen, fun k x hx => ?_⟩, fun z hz => ?_⟩
    · obtain ⟨z0, ⟨fv0, h0, _⟩, _⟩ := hcell 0 (by have := (List.getElem?_eq_some_iff.1 hx).1; omega)
      obtain ⟨⟨fv, h1, h2, h3⟩, _⟩ := hat k x hx
      obtain ⟨e1, e2⟩ := addr_of_cell ⟨_, h0⟩ h1
      obtain ⟨_, e3⟩ := addr_of_cell ⟨_, h0⟩ h3
      exact ⟨a.block, a.off, fv, by rw [← e1], e2, h2, e3⟩
    · obtain ⟨k, hk⟩ := List.getElem?_of_mem hz
      exact (hat k z hk).2
set_option maxRecDepth 100000 in
theorem open_cert {r : Reach} {b0 : Nat} {v : Value} {d : DataW H} {p : List MemPlace} (hv : Value.okWide Tryd.prog w r b0 25 v) (h : DataW.Trod enc Tryd.prog w base spare held 25 v d p) (hs : Sized Tryd.prog 25 d) :
    ∃ bd nv l, v = .agg #[.int .i64 bd, nv] ∧ I64 bd ∧ NogoodsAt w nv l ∧ ∀ z ∈ l, I64 z.2 ∧ ∀ f ∈ z.1, I64 f.1 ∧ I64 f.2 := by
  obtain ⟨c0, c1, y0, y1, m, rfl, rfl, rfl, hy0, hy1⟩ := open_agg2 Tryd.underlying25 (by kernel_rfl) (by kernel_rfl) hv h
  obtain ⟨z, hz, _, wz⟩ := DataW.trod_int Tryd.underlying3 hy0
  injection hz with hz
  subst hz
  obtain ⟨l, hl, hw⟩ := open_nogoodsAt hy1 (sized_field hs Tryd.underlying25 (j := 1) rfl rfl)
  exact ⟨z, c1, l, rfl, I64.of wz, hl, hw⟩
end Go.Proofs.YticdfbhbbapbdaaDoor
/- Opening arguments for the abstract machine: readers that compose. -/
namespace Go.Proofs.YticdfbhbbapbdaaDoor.Am
open Go.RowKit Go.ChangeShapes Go.WideShapes Go.Deep Go.Joins

/-- nothing is owned at the start -/
abbrev mZ : MM := mO (fun _ => False)
theorem noZ (b : Nat) : ¬ Owned nov mZ b := fun h => owned_nov.1 h

section
variable {H : Type} {enc : TypeId × Value → H} {P : Program} {w : World} {base : Nat} {spare : Nat → Bool} {held : Bool}
/-- cells that stand for the values -/
def CellsRv (w : World) (es : List AV) (cs : List Value) : Prop := es.length = cs.length ∧ (∀ (j : Nat) (y : AV) (u : Value), es[j]? = some y → cs[j]? = some u → RV w nov mZ y u ∧ u.oneCell' = true) ∧ ∀ y ∈ es, Fr y
/-- data of type t read as an α -/
def Opens (enc : TypeId × Value → H) (P : Program) (w : World) (base : Nat) (spare : Nat → Bool) (held : Bool) (t : TypeId) {α : Type} (en : α → List AV) (R : α → Prop) : Prop :=
  ∀ (fuel : Nat) (cs : List Value) (x : DataW H × List MemPlace), DataW.trod enc P w base spare held fuel t cs = some x → Sized P t x.1 → ∃ a, R a ∧ CellsRv w (en a) cs

theorem cells_one1 {y : AV} {u : Value} (h : RV w nov mZ y u) (h1 : u.oneCell' = true) (hf : Fr y) : CellsRv w [y] [u] := by
  refine ⟨rfl, fun j z v hz hv => ?_, fun z hz => by simp at hz; subst hz; exact hf⟩
  cases j with
  | zero => simp at hz hv; subst hz hv; exact ⟨h, h1⟩
  | succ j => simp at hz
theorem opens_int {t : TypeId} {k : IntKind} (ht : P.underlying t = some (.int k)) : Opens enc P w base spare held t (fun z : Int => [.c (.int k z)]) (fun z => (Lit.int k z).wf = true) := by
  intro fuel cs x h _
  obtain ⟨z, rfl, _, wz⟩ := DataW.trod_int ht h
  exact ⟨z, wz, cells_one1 (.c _) rfl (.c _)⟩
theorem opens_bool {t : TypeId} (ht : P.underlying t = some .bool) : Opens enc P w base spare held t (fun b : Bool => [.c (.bool b)]) (fun _ => True) := by
  intro fuel cs x h _
  obtain ⟨b, rfl, _⟩ := DataW.trod_bool ht h
  exact ⟨b, trivial, cells_one1 (.c _) rfl (.c _)⟩
theorem opens_str {t : TypeId} (ht : P.underlying t = some .string) : Opens enc P w base spare held t (fun s : ByteArray => [.c (.string s)]) (fun s => s.size ≤ maxLen) := by
  intro fuel cs x h _
  obtain ⟨s, rfl, _, hs⟩ := DataW.trod_string ht h
  exact ⟨s, hs, cells_one1 (.c _) rfl (.c _)⟩

theorem opens_slice {t e : TypeId} {α : Type} {en : α → List AV} {R : α → Prop} {sz by_ : Nat} (ht : P.underlying t = some (.slice e)) (hc : P.cellsOf e = sz) (hb : P.bytesOf e = by_) (hby : 0 < by_) (hsz : 0 < sz) (he : Opens enc P w base spare held e en R) :
    Opens enc P w base spare held t (fun l : List α => [.sl sz (l.map en)]) (fun l => l.length * by_ ≤ 140737488355328 ∧ ∀ x ∈ l, R x) := by
  intro fuel cs x h hs
  rcases open_slice ht h with ⟨rfl, _⟩ | ⟨a, len, cap, m, n, D, Pl, rfl, _, hl, hm, hmm, rfl, hi⟩
  · refine ⟨[], ⟨by simp, by simp⟩, cells_one1 ?_ rfl (.sl (fun e he => by cases he))⟩
    exact RV.sl (l := []) (b := 0) (off := 0) (f := fun _ _ => undef) (fun h => absurd rfl h) (Nat.zero_le _) (by simp) (fun k e h => by simp at h) (fun k j e x h => by simp at h) (fun k j e x h => by simp at h) (fun e he => by cases he)
  · have hlen := sized_len hs ht
    rw [hb] at hlen
    simp only [List.length_map, List.length_range] at hlen
    have hml : len ≤ m := by rw [hmm]; split <;> omega
    have hcell : ∀ i, i < len → ∃ z : α, R z ∧ ∃ cs', CellsRv w (en z) cs' ∧ cs'.length = sz ∧ ∀ j, j < sz → w.cell? (a.add (i * sz + j)) = cs'[j]? := by
      intro i hi'
      obtain ⟨cs', hcc, ht'⟩ := hi i (by omega)
      rw [hc] at hcc
      obtain ⟨z, hz, hcr⟩ := he n cs' _ ht' (sized_elem hs ht (List.mem_map.2 ⟨i, by simpa using hi', rfl⟩))
      obtain ⟨_, hcl', hat⟩ := World.cells?_some hcc
      exact ⟨z, hz, cs', hcr, hcl', fun j hj => by rw [← hat j hj, Go.Deep.add_add]⟩
    obtain ⟨l, hl', hat⟩ := list_of len _ hcell
    have hR : ∀ x ∈ l, R x := fun x hx => by
      obtain ⟨k, hk⟩ := List.getElem?_of_mem hx
      exact (hat k x hk).1
    have hfr : FrL (l.map en) := by
      intro e he
      obtain ⟨x, hx, rfl⟩ := List.mem_map.1 he
      obtain ⟨k, hk⟩ := List.getElem?_of_mem hx
      obtain ⟨_, cs', hcr, _⟩ := hat k x hk
      exact hcr.2.2
    refine ⟨l, ⟨by rw [hl']; exact hlen, hR⟩, cells_one1 ?_ rfl (.sl hfr)⟩
    have key : ∀ (k j : Nat) (e : List AV) (y : AV), (l.map en)[k]? = some e → e[j]? = some y → e.length = sz ∧ ∃ u, w.cell? ⟨a.block, a.off + (k * sz + j), none⟩ = some u ∧ u.oneCell' = true ∧ RV w nov mZ y u ∧ a = ⟨a.block, a.off, none⟩ ∧ a.block < w.heap.size := by
      intro k j e y hk hj
      rw [List.getElem?_map] at hk
      cases hx : l[k]? with
      | none => rw [hx] at hk; cases hk
      | some z =>
        rw [hx] at hk
        simp at hk
        subst hk
        obtain ⟨_, cs', ⟨c1, c2, _⟩, c4, c5⟩ := hat k z hx
        have hjl : j < sz := by rw [← c4, ← c1]; exact (List.getElem?_eq_some_iff.1 hj).1
        have hcj := c5 j hjl
        have hget : cs'[j]? = some (cs'[j]'(by omega)) := List.getElem?_eq_getElem _
        rw [hget] at hcj
        obtain ⟨r1, r2⟩ := c2 j y _ hj hget
        have h0 : 0 < len := by have := (List.getElem?_eq_some_iff.1 hx).1; omega
        obtain ⟨_, _, cs0, ⟨_, _, _⟩, d4, d5⟩ := hcell 0 h0
        have hz0 := d5 0 hsz
        rw [List.getElem?_eq_getElem (by omega)] at hz0
        obtain ⟨e1, e2⟩ := addr_of_cell ⟨_, by simpa using hz0⟩ hcj
        exact ⟨by rw [c1, c4], _, e2, r2, r1, e1, lt_of_cell (p := ⟨a.block, a.off + (k * sz + j), none⟩) e2⟩
    have hlen2 : (l.map en).length = len := by simp [hl']
    have := RV.sl (w := w) (vs := nov) (m := mZ) (sz := sz) (l := l.map en) (A := some a) (cap := cap) (b := a.block) (off := a.off) (f := fun k j => (w.cell? ⟨a.block, a.off + (k * sz + j), none⟩).getD undef)
      (fun hne => ?_) (by omega) (by rw [hlen2]; exact Nat.le_trans (Nat.le_mul_of_pos_right _ hby) hlen) (fun k e hk => ?_) (fun k j e y hk hj => ?_) (fun k j e y hk hj => ?_) hfr
    · rw [hlen2] at this
      exact this
    · have h0 : 0 < (l.map en).length := List.length_pos_iff.2 hne
      have hk := List.getElem?_eq_getElem h0
      obtain ⟨x0, hx0, hx0'⟩ : ∃ x0, l[0]? = some x0 ∧ (l.map en)[0] = en x0 := by
        have h1 : 0 < l.length := by simpa using h0
        exact ⟨l[0], List.getElem?_eq_getElem h1, by simp⟩
      obtain ⟨_, cs', ⟨c1, _, _⟩, c4, _⟩ := hat 0 x0 hx0
      have hel : 0 < ((l.map en)[0]).length := by rw [hx0', c1, c4]; exact hsz
      obtain ⟨_, _, _, _, _, q1, q2⟩ := key 0 0 _ _ hk (List.getElem?_eq_getElem hel)
      exact ⟨by rw [← q1], noZ _, q2⟩
    · rw [List.getElem?_map] at hk
      cases hx : l[k]? with
      | none => rw [hx] at hk; cases hk
      | some z =>
        rw [hx] at hk
        simp at hk
        subst hk
        obtain ⟨_, cs', ⟨c1, _, _⟩, c4, _⟩ := hat k z hx
        rw [c1, c4]
    · obtain ⟨_, u, q1, q2, _⟩ := key k j e y hk hj
      rw [q1]
      exact ⟨rfl, q2⟩
    · obtain ⟨_, u, q1, _, q3, _⟩ := key k j e y hk hj
      rw [q1]
      exact q3

/-- fields from one on -/
def OpensF (enc : TypeId × Value → H) (P : Program) (w : World) (base : Nat) (spare : Nat → Bool) (held : Bool) (fs : List Field) (off tot : Nat) {α : Type} (en : α → List AV) (R : α → Prop) : Prop :=
  ∀ (fuel : Nat) (cs : List Value) (xs : List (DataW H × List MemPlace)), cs.length = tot → xs.length = fs.length → (∀ (i : Nat) (f : Field), fs[i]? = some f → DataW.trod enc P w base spare held fuel f.type ((cs.drop f.offset).take (P.cellsOf f.type)) = xs[i]?) →
    (∀ (i : Nat) (f : Field) (x : DataW H × List MemPlace), fs[i]? = some f → xs[i]? = some x → Sized P f.type x.1) → ∃ a, R a ∧ CellsRv w (en a) (cs.drop off)
theorem cells_append {a b : List AV} {xs ys : List Value} (h1 : CellsRv w a xs) (h2 : CellsRv w b ys) : CellsRv w (a ++ b) (xs ++ ys) := by
  refine ⟨by rw [List.length_append, List.length_append, h1.1, h2.1], fun j y u hy hu => ?_, fun y hy => ?_⟩
  · rcases Nat.lt_or_ge j a.length with hlt | hge
    · rw [List.getElem?_append_left hlt] at hy
      rw [List.getElem?_append_left (by rw [← h1.1]; exact hlt)] at hu
      exact h1.2.1 j y u hy hu
    · rw [List.getElem?_append_right hge] at hy
      rw [List.getElem?_append_right (by rw [← h1.1]; exact hge)] at hu
      rw [h1.1] at hy
      exact h2.2.1 _ y u hy hu
  · rcases List.mem_append.1 hy with h | h
    · exact h1.2.2 y h
    · exact h2.2.2 y h
theorem opensF_last {f : Field} {off tot : Nat} {α : Type} {en : α → List AV} {R : α → Prop} (ho : f.offset = off) (htot : off + P.cellsOf f.type = tot) (h : Opens enc P w base spare held f.type en R) : OpensF enc P w base spare held [f] off tot en R := by
  intro fuel cs xs hcl hx ht hs
  obtain ⟨x, rfl⟩ := List.length_eq_one_iff.1 hx
  have h1 := ht 0 f rfl
  obtain ⟨a, ha, hc⟩ := h fuel _ x h1 (hs 0 f x rfl rfl)
  refine ⟨a, ha, ?_⟩
  rw [ho, List.take_of_length_le (by simp; omega)] at hc
  exact hc
theorem opensF_cons {f : Field} {fs : List Field} {off off' tot : Nat} {α β : Type} {en : α → List AV} {R : α → Prop} {en' : β → List AV} {R' : β → Prop} (ho : f.offset = off) (hoff : off + P.cellsOf f.type = off') (h : Opens enc P w base spare held f.type en R) (h' : OpensF enc P w base spare held fs off' tot en' R') :
    OpensF enc P w base spare held (f :: fs) off tot (fun p : α × β => en p.1 ++ en' p.2) (fun p => R p.1 ∧ R' p.2) := by
  intro fuel cs xs hcl hx ht hs
  cases xs with
  | nil => simp at hx
  | cons x xs =>
    obtain ⟨a, ha, hc⟩ := h fuel _ x (ht 0 f rfl) (hs 0 f x rfl rfl)
    obtain ⟨b, hb, hc'⟩ := h' fuel cs xs hcl (by simpa using hx) (fun i g hg => by simpa using ht (i + 1) g (by simpa using hg)) (fun i g y hg hy => hs (i + 1) g y (by simpa using hg) (by simpa using hy))
    refine ⟨(a, b), ⟨ha, hb⟩, ?_⟩
    rw [ho] at hc
    have : cs.drop off = (cs.drop off).take (P.cellsOf f.type) ++ cs.drop off' := by
      rw [← hoff, ← List.drop_drop, List.take_append_drop]
    rw [this]
    exact cells_append hc hc'
theorem opens_struct {t : TypeId} {fs : Array Field} {α : Type} {en : α → List AV} {R : α → Prop} (ht : P.underlying t = some (.struct fs)) (h : OpensF enc P w base spare held fs.toList 0 (P.cellsOf t) en R) : Opens enc P w base spare held t en R := by
  intro fuel cs x hx hs
  obtain ⟨xs, n, _, rfl, hcl, hxl, hf⟩ := DataW.trod_struct ht hx
  obtain ⟨a, ha, hc⟩ := h n cs xs hcl (by simpa using hxl) (fun i f hi => hf i f (by simpa using hi)) (fun i f y hi hy => sized_field hs ht (j := i) (by simpa using hi) (by simp [List.getElem?_map, hy]))
  exact ⟨a, ha, by simpa using hc⟩

/-- a struct that came in -/
theorem agg_rv {es : List AV} {us : Array Value} (h : CellsRv w es us.toList) : RV w nov mZ (.agg es) (.agg us) :=
  .agg (by rw [h.1]; simp) (fun j y u hy hu => (h.2.1 j y u hy (by simpa using hu)).1)
theorem one_rv {y : AV} {u : Value} (h : CellsRv w [y] [u]) : RV w nov mZ y u := (h.2.1 0 y u rfl rfl).1
end
end Go.Proofs.YticdfbhbbapbdaaDoor.Am
/- From a walk to a law's row: the arguments read behind the call as before, the result is true. -/
namespace Go.Proofs.YticdfbhbbapbdaaDoor
open Go.RowKit Go.WideShapes Go.ChangeShapes Go.ChangeAt
section
variable {H : Type} {enc : TypeId × Value → H} {P : Program}
theorem post_of_below {f : Func} {s : ChangeSpec} {apart fresh handsOn again : Bool} {W W' : World} {args : Array Value} {v : Value} {ds gs : List (DataW H)} {before pa pv : List MemPlace}
    (hW : DataW.Whole enc P f.params.toList s.vars apart W args.toList ds gs before)
    (hres : ∀ (b : Nat) (sp : Nat → Bool) (hd : Bool), DataW.TrodAll enc P W' b sp hd f.resultTypes.toList (v.resultList f.resultTypes.size) (s.fn H (ds ++ gs)).results [])
    (hargs : ∀ sp : Nat → Bool, (∀ p ∈ before, sp p.block = true) → DataW.TrodAll enc P W' 0 sp true f.params.toList args.toList (s.fn H (ds ++ gs)).args pa)
    (hvars : ∀ sp : Nat → Bool, (∀ p ∈ before, sp p.block = true) → DataW.TrodVars enc P W' sp s.vars (s.fn H (ds ++ gs)).vars pv)
    (hps : before = pa ++ pv) (hb : Below W.heap.size W W')
    (hok : ∀ (j : Nat) (t : TypeId) (r : Value), f.resultTypes[j]? = some t → (v.resultList f.resultTypes.size)[j]? = some r → Value.okWide P W' .any 0 t r) :
    s.post enc P f apart fresh handsOn again W args v W' := by
  have hlt : ∀ p ∈ before, p.block < W.heap.size := fun p hp => hW.lt p hp
  have hold : ∀ p ∈ before, (fun b => decide (b < W.heap.size)) p.block = true := fun p hp => by simpa using hlt p hp
  refine ⟨ds, gs, before, [], pa, pv, hW, hres _ _ _, hargs _ hold, hvars _ hold, World.keptBut_mono (fun p hp => ⟨hp, ?_⟩) (hb.frame (· ∈ before)), fun _ => ?_⟩
  · rw [hps, List.mem_append] at hp
    exact Or.inr hp
  · obtain ⟨_, _, _, _, _, hz, hn⟩ := hW
    refine ⟨hok, _, _, ([] ++ pa) ++ pv, ⟨[] ++ pa, pv, trodAll_append (hargs _ (fun _ _ => rfl)) (hres _ _ _), hvars _ (fun _ _ => rfl), rfl, ?_, ?_⟩, ?_⟩
    · intro b off hp
      have hin : MemPlace.cell b off ∈ before := by rw [hps]; simpa using hp
      rw [hb.frozen (hlt _ hin)]
      exact hz b off hin
    · intro ha
      have := hn ha
      rw [hps] at this
      simpa using this
    · intro p hp _
      rw [hps]
      simpa using hp

theorem trodAll_keep (hl : laidOutB P = true) {W W' : World} (hb : Below W.heap.size W W') (sp : Nat → Bool) (ts : List TypeId) : ∀ (vs : List Value) (ds : List (DataW H)) (ps : List MemPlace), (∀ t ∈ ts, P.readableRec t = true ∧ t < P.types.size) →
    DataW.TrodAll enc P W 0 (fun _ => true) true ts vs ds ps → (∀ x ∈ ps, x.block < W.heap.size) → (∀ x ∈ ps, sp x.block = true) → DataW.TrodAll enc P W' 0 sp true ts vs ds ps := by
  induction ts with
  | nil =>
    intro vs ds ps _ h _ _
    obtain ⟨rfl, rfl, rfl⟩ := trodAll_nil h
    exact trodAll_mk0
  | cons t ts ih =>
    intro vs ds ps hts h hlt hsp
    obtain ⟨v0, vs0, d0, ds0, p0, q0, rfl, rfl, rfl, h0, r0⟩ := trodAll_cons h
    obtain ⟨hr, hrow⟩ := hts t (by simp)
    exact trodAll_cons_mk (WideElems.Trod_stays hl hr hrow h0 (fun x hx => hb.same (hlt x (by simp [hx]))) (fun x hx => hsp x (by simp [hx])))
      (ih _ _ _ (fun t ht => hts t (by simp [ht])) r0 (fun x hx => hlt x (by simp [hx])) (fun x hx => hsp x (by simp [hx])))

/-- A LAW: it returned true, nothing that was there has turned. -/
theorem law_post (hl : laidOutB P = true) {f : Func} {s : ChangeSpec} {T : TypeId} {W W' : World} {args : Array Value} {ds : List (DataW H)} {before : List MemPlace}
    (hvars : s.vars = []) (hrt : f.resultTypes = #[T]) (hT : P.underlying T = some .bool) (hts : f.params.toList.all (fun t => P.readableRec t && decide (t < P.types.size)) = true)
    (hW : DataW.Whole enc P f.params.toList s.vars false W args.toList ds [] before) (hA : DataW.TrodAll enc P W 0 (fun _ => true) true f.params.toList args.toList ds before)
    (e1 : (s.fn H (ds ++ [])).results = [.lit (.bool true)]) (e2 : (s.fn H (ds ++ [])).args = ds) (e3 : (s.fn H (ds ++ [])).vars = []) (hb : Below W.heap.size W W') :
    s.post enc P f false true false false W args (.bool true) W' := by
  have hlt : ∀ x ∈ before, x.block < W.heap.size := fun x hx => hW.lt x hx
  refine post_of_below (pa := before) (pv := []) hW ?_ ?_ ?_ (by simp) hb ?_
  · intro b sp hd
    rw [e1, hrt]
    exact trodAll_cons_mk (shut_bool hT true) trodAll_mk0
  · intro sp hsp
    rw [e2]
    exact trodAll_keep hl hb sp _ _ _ _ (fun t ht => by simpa using List.all_eq_true.1 hts t ht) hA hlt hsp
  · intro sp hsp
    rw [e3, hvars]
    rfl
  · exact ok_one hrt rfl (okWide_bool_mk hT true)
end
end Go.Proofs.YticdfbhbbapbdaaDoor
/- Readers of the arguments of chapter 30's laws. -/
namespace Go.Proofs.YticdfbhbbapbdaaDoor.Am
open Go.RowKit Go.ChangeShapes Go.WideShapes Go.Deep Go.Joins
section
variable {H : Type} {enc : TypeId × Value → H} {w : World} {base : Nat} {spare : Nat → Bool} {held : Bool}
set_option maxRecDepth 100000 in
theorem oFact : Opens enc Tryd.prog w base spare held 54 cF (fun p : Fact => (Lit.int .i64 p.1).wf = true ∧ (Lit.int .i64 p.2).wf = true) :=
  opens_struct Tryd.underlying54 (opensF_cons (off' := 1) rfl (by kernel_rfl) (opens_int Tryd.underlying3) (opensF_last rfl (by kernel_rfl) (opens_int Tryd.underlying3)))
set_option maxRecDepth 100000 in
theorem oFacts : Opens enc Tryd.prog w base spare held 43 (fun l : List Fact => [.sl 2 (l.map cF)]) (fun l => l.length * 16 ≤ 140737488355328 ∧ ∀ p ∈ l, (Lit.int .i64 p.1).wf = true ∧ (Lit.int .i64 p.2).wf = true) :=
  opens_slice Tryd.underlying43 (by kernel_rfl) (by kernel_rfl) (by decide) (by decide) oFact
set_option maxRecDepth 100000 in
theorem oNogood : Opens enc Tryd.prog w base spare held 45 cN (fun x : Nogood => (x.1.length * 16 ≤ 140737488355328 ∧ ∀ p ∈ x.1, (Lit.int .i64 p.1).wf = true ∧ (Lit.int .i64 p.2).wf = true) ∧ (Lit.int .i64 x.2).wf = true) :=
  opens_struct Tryd.underlying45 (opensF_cons (off' := 1) (en := fun l : List Fact => [AV.sl 2 (l.map cF)]) (R := fun l : List Fact => l.length * 16 ≤ 140737488355328 ∧ ∀ p ∈ l, (Lit.int .i64 p.1).wf = true ∧ (Lit.int .i64 p.2).wf = true) (en' := fun z : Int => [AV.c (.int .i64 z)]) (R' := fun z : Int => (Lit.int .i64 z).wf = true) rfl (by kernel_rfl) oFacts (opensF_last rfl (by kernel_rfl) (opens_int Tryd.underlying3)))
set_option maxRecDepth 100000 in
theorem oNogoods : Opens enc Tryd.prog w base spare held 23 (fun l : List Nogood => [.sl 2 (l.map cN)]) (fun l => l.length * 32 ≤ 140737488355328 ∧ ∀ x ∈ l, (x.1.length * 16 ≤ 140737488355328 ∧ ∀ p ∈ x.1, (Lit.int .i64 p.1).wf = true ∧ (Lit.int .i64 p.2).wf = true) ∧ (Lit.int .i64 x.2).wf = true) :=
  opens_slice Tryd.underlying23 (by kernel_rfl) (by kernel_rfl) (by decide) (by decide) oNogood
set_option maxRecDepth 100000 in
theorem oInts : Opens enc Tryd.prog w base spare held 36 (fun l : List Int => [.sl 1 (l.map cI)]) (fun l => l.length * 8 ≤ 140737488355328 ∧ ∀ z ∈ l, (Lit.int .i64 z).wf = true) :=
  opens_slice Tryd.underlying36 (by kernel_rfl) (by kernel_rfl) (by decide) (by decide) (opens_int Tryd.underlying3)
set_option maxRecDepth 100000 in
theorem oCert {r : Reach} {b0 : Nat} {v : Value} {d : DataW H} {p : List MemPlace} (hv : Value.okWide Tryd.prog w r b0 25 v) (h : DataW.Trod enc Tryd.prog w base spare held 25 v d p) (hs : Sized Tryd.prog 25 d) :
    ∃ bd l, SzN l ∧ RV w nov mZ (aC bd l) v := by
  obtain ⟨c0, c1, y0, y1, m, rfl, rfl, rfl, hy0, hy1⟩ := open_agg2 Tryd.underlying25 (by kernel_rfl) (by kernel_rfl) hv h
  obtain ⟨z, hz, _, wz⟩ := DataW.trod_int Tryd.underlying3 hy0
  injection hz with hz
  subst hz
  obtain ⟨l, hl, hw⟩ := oNogoods _ _ _ hy1 (sized_field hs Tryd.underlying25 (j := 1) rfl rfl)
  exact ⟨z, l, ⟨hl.1, fun x hx => (hl.2 x hx).1.1⟩, cert_rv (one_rv hw)⟩
end
end Go.Proofs.YticdfbhbbapbdaaDoor.Am
/- stratagemlaw30.CertificateReturns returns true for every input. No condition beyond the card's own. -/
namespace Go.Proofs.YticdfbhbbapbdaaDoor.rowReturns
open Go.ChangeShapes Go.WideShapes Go.ChangeAt Go.RowKit Am

theorem table {W : World} (h : laidMetH Tryd.prog Rows.certificateReturnsRow.laid W) : TabOk W := by
  obtain ⟨ps, ⟨_, _, _, _, _, _, _, _, _, _, ⟨_, _, _, _, _, _, _, _, _, _, hr, _⟩, _⟩, _⟩ := h
  obtain ⟨g', t', cs, fuel, p, q, hg', ht', hvar, hd, _, _⟩ := hr
  obtain rfl := Option.some.inj (gPow.symm.trans hg')
  obtain rfl := Option.some.inj ((show (Tryd.prog.globals[0]?).map (·.type) = some 117 by kernel_rfl).symm.trans ht')
  unfold TabOk Lib.TabIs
  rw [hvar, ← Lib.cells_of_tab (zs := Lib.pow10Tab) Tryd.underlying117 Tryd.underlying104 (by kernel_rfl) (by kernel_rfl) hd]
set_option maxRecDepth 100000 in
theorem contract (H : Type) (enc : TypeId × Value → H) (W : World) (base : Nat) (args : Array Value) (ds gs : List (DataW H)) (before : List MemPlace)
    (hval : ∀ (j : Nat) t v, Tryd.f10.params[j]? = some t → args[j]? = some v → Value.okWide Tryd.prog W .any base t v)
    (hW : DataW.Whole enc Tryd.prog Tryd.f10.params.toList Rows.certificateReturnsSpec.vars false W args.toList ds gs before) (hL : laidMetH Tryd.prog Rows.certificateReturnsRow.laid W)
    (hsz : (DataW.weightsEach Tryd.prog (Tryd.f10.params.toList ++ (OpenSpec.ofChange Rows.certificateReturnsSpec).bare.plain.varTypes Tryd.prog) (ds ++ gs)).all (· ≤ reachBytes) = true) (hsh : W.ShapedOpen Tryd.prog) :
    Calls Tryd.prog 10 args W fun e W' => ∃ v, e = .returned v ∧ Rows.certificateReturnsSpec.post enc Tryd.prog Tryd.f10 false true false false W args v W' := by
  have hW' := hW
  obtain ⟨p, q, hA0, hV, rfl, hfz, hnd⟩ := hW
  have hA : DataW.TrodAll enc Tryd.prog W 0 (fun _ => true) true Tryd.f10.params.toList args.toList ds p := hA0
  rw [Tryd.params10] at hA hval
  obtain ⟨v0, vs0, d0, ds0, p0, q0, hargs, rfl, rfl, h0, r0⟩ := trodAll_cons hA
  obtain ⟨v1, vs1, d1, ds1, p1, q1, rfl, rfl, rfl, h1, r1⟩ := trodAll_cons r0
  obtain ⟨rfl, rfl, rfl⟩ := trodAll_nil r1
  obtain rfl : args = #[v0, v1] := Array.ext' hargs
  obtain ⟨rfl, rfl⟩ := trodVars_none hV
  simp only [List.append_nil] at hW' hA0 hsz
  rw [Tryd.params10] at hsz
  obtain ⟨bd, l, hl, k0⟩ := oCert (hval 0 25 v0 rfl rfl) h0 (sized_arg hsz (j := 0) rfl rfl)
  obtain ⟨f1, hf1⟩ := h1
  obtain ⟨s, rfl⟩ := okWide_string Tryd.underlying9 (hval 1 9 v1 rfl rfl)
  have hsm : smallN l = true := by
    simp only [smallN, Bool.and_eq_true, decide_eq_true_eq, List.all_eq_true]
    exact hl
  refine (law_of (A_stratagemlaw30_CertificateReturns { Bound := bd, Nogoods := l } s (returns_true { Bound := bd, Nogoods := l } s hsm)) ⟨table hL, Tryd.laysM146.s1_3 W hsh⟩ rfl (fun j x v hx hv => ?_)).mono fun e W' ⟨he, hb⟩ => ?_
  · match j, hx, hv with
    | 0, hx, hv => simp at hx hv; subst hx hv; exact k0
    | 1, hx, hv => simp at hx hv; subst hx hv; exact .c _
    | j + 2, hx, hv => simp at hx
  · subst he
    exact ⟨_, rfl, law_post laidOut rfl (by kernel_rfl) Tryd.underlying4 (by kernel_rfl) hW' hA0 rfl rfl rfl hb⟩
theorem laid_met (os : Os) : laidMet Tryd.prog Rows.certificateReturnsRow.laid ((laidWorld5 os).forCall (fun _ _ => 0) ⟨#[], #[.agg #[.int .i64 0, .slice none 0 0], .string ⟨#[]⟩], []⟩).memory :=
  laidMet_of_run' 8 (by kernel_rfl) (by kernel_rfl)
theorem reads (os : Os) {H : Type} (enc : TypeId × Value → H) : ∃ places, DataW.whole enc Tryd.prog ((laidWorld5 os).forCall (fun _ _ => 0) ⟨#[], #[.agg #[.int .i64 0, .slice none 0 0], .string ⟨#[]⟩], []⟩).memory Tryd.f10.params.toList Rows.certificateReturnsSpec.vars false (#[.agg #[.int .i64 0, .slice none 0 0], .string ⟨#[]⟩] : Array Value).toList 8 = some ([.agg [.lit (.int .i64 0), .nil], .lit (.string [])], [], places) :=
  ⟨[], by kernel_rfl⟩

set_option maxRecDepth 100000 in
theorem lifted (os : Os) (started : os.Started) (H : Type) (enc : TypeId × Value → H) (F : Stop.Interp) :
    ReturnsInHanded {} Tryd.checked os 10 .any ((OpenSpec.ofChange Rows.certificateReturnsSpec).preRow enc Tryd.prog Tryd.f10 Rows.certificateReturnsRow.domain false Rows.certificateReturnsRow.laid) (((OpenSpec.ofChange Rows.certificateReturnsSpec).at F).post enc Tryd.prog Tryd.f10 false true false false) := by
  obtain ⟨places, hx⟩ := reads os enc
  refine returnsInHanded_of_row (C := Tryd.checked) (s := OpenSpec.ofChange Rows.certificateReturnsSpec) own started (by kernel_rfl) Tryd.func10
    (witness_row_at (enc := enc) (C := Tryd.checked) false (laidWorld5 os) #[.agg #[.int .i64 0, .slice none 0 0], .string ⟨#[]⟩] rfl (by kernel_rfl) (by kernel_rfl) (by kernel_rfl)
      (OpenSpec.preRow_of_cond 8 hx (by kernel_rfl) (fun k hk => by cases hk) (by kernel_rfl) (laid_met os))) ?_
  intro W base args ds gs before hval hW _ _ hsz hL hsh _
  exact contract H enc W base args ds gs before hval hW hL hsz hsh

theorem said : Rows.CertificateReturnsSaid :=
  OpenClaim.holds_of_cond 10 Tryd.f10 rfl rfl rfl rfl rfl rfl rfl ⟨rfl, rfl, rfl, rfl, rfl⟩ rfl rfl rfl rfl rfl (by kernel_rfl) Tryd.func10 (by kernel_rfl)
    (of_decide_eq_true (by kernel_rfl)) (by unfold Func.isWrapper; first | (rw [if_pos (by decide +kernel)]; kernel_rfl) | (rw [if_neg (by decide +kernel)]; exact ⟨rfl, rfl⟩))
    (fun os started H enc _ F => by rw [OpenClaim.pre_eq_preRow]; exact lifted os started H enc F)

theorem plain (f : FuncId) (fn : Func) (hf : Tryd.pinned.checked.prog.funcNamed Rows.certificateReturnsRow.func = some f) (hfn : Tryd.pinned.checked.prog.funcs[f]? = some fn) :
    true = Tryd.pinned.checked.prog.looks [] ∧ ∀ (j : Nat) t, fn.params[j]? = some t → Tryd.pinned.checked.prog.wantsStandIn t = false := by
  obtain rfl : f = 10 := Option.some.inj ((show Tryd.prog.funcNamed Rows.certificateReturnsRow.func = some 10 by kernel_rfl).symm.trans hf) |>.symm
  obtain rfl : fn = Tryd.f10 := (Option.some.inj (Tryd.func10.symm.trans hfn)).symm
  refine ⟨by kernel_rfl, fun j t ht => ?_⟩
  have hall : Tryd.f10.params.toList.all (fun t => !Tryd.prog.wantsStandIn t) = true := by kernel_rfl
  have := List.all_eq_true.1 hall t (by simpa using Array.mem_of_getElem? ht)
  have h2 : Tryd.prog.wantsStandIn t = false := by simpa using this
  exact h2

/-- THE CARD: stratagemlaw30's statement holds. -/
theorem card : Rows.CertificateReturnsCardSaid :=
  Claim7.holds_tied_plain_at .later [] _ _ _ _ said (fun _ h => by cases h) (by kernel_rfl) (fun _ h => by cases h) certificateReturns_row_tie rfl ⟨rfl, rfl⟩ (by kernel_rfl) rfl plain (by kernel_rfl)
end Go.Proofs.YticdfbhbbapbdaaDoor.rowReturns
