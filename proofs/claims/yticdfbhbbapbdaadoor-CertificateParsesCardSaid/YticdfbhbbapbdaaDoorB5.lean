/- stratagemlaw30.CertificateParses returns true for every input. No condition beyond the card's own. -/
import Derived.Test.YticdfbhbbapbdaaDoorB4
import Derived.Test.YticdfbhbbapbdaaDoorB1
import Derived.Deep.Slices
import Derived.Deep.Fields
import Derived.ChangeSame
import Derived.SizedLaws
import Derived.Lib.SmallJoins
import Derived.Test.YticdfbhbbapbdaaDoorB2
import Derived.Below
import Derived.OpenShut
import Derived.Carry
/- Plain law of CertificateParses: both parsers agree on every text. -/
namespace Go.Proofs.YticdfbhbbapbdaaDoor.Am
open Go.RowKit
def kUnsolv : List UInt8 := [117, 110, 115, 111, 108, 118, 97, 98, 108, 101]
/-- the bound of the first line -/
def headF (l : List UInt8) : Option Int :=
  if l = kUnsolv then some (-1) else match splitL 32 l with
    | [w0, w1] => if w0 = kLower then numF w1 else none
    | _ => none
theorem lit_eq (s t : ByteArray) : (s.toList == t.toList) = decide (bl s = bl t) := by
  rw [toList_bl, toList_bl, Bool.eq_iff_iff]
  simp only [beq_iff_eq, decide_eq_true_eq]
theorem first_eq (s : ByteArray) (hs : s.size ≤ 65536) : ∃ n, M_stratagemref30_first s = some (n, (headF (bl s)).isSome) ∧ ∀ m, headF (bl s) = some m → n = m := by
  rw [M_stratagemref30_first, lit_eq, headF]
  by_cases h : bl s = kUnsolv
  · rw [show decide (bl s = bl (⟨#[117, 110, 115, 111, 108, 118, 97, 98, 108, 101]⟩ : ByteArray)) = true from decide_eq_true h, sel_tt, if_pos h]
    exact ⟨-1, rfl, fun m hm => by injection hm⟩
  · rw [show decide (bl s = bl (⟨#[117, 110, 115, 111, 108, 118, 97, 98, 108, 101]⟩ : ByteArray)) = false from decide_eq_false h, sel_ff, if_neg h, words_eq s hs, ob1_some]
    match hsp : splitL 32 (bl s) with
    | [] => exact absurd hsp (splitL_ne _ _)
    | [w0] => exact ⟨0, rfl, fun m hm => by cases hm⟩
    | w0 :: w1 :: w2 :: ws =>
      refine ⟨0, ?_, fun m hm => by cases hm⟩
      have : (((((w0 :: w1 :: w2 :: ws).map ofB).map cS).length : Int) != 2) = true := by simp; omega
      rw [this, sel_tt]
      rfl
    | [w0, w1] =>
      have hw1 : w1.length ≤ 65536 := by have := splitL_mem_len (c := 32) (l := bl s) (w := w1) (by rw [hsp]; simp); rw [bl_len] at this; omega
      have a0 : ([w0, w1].map ofB)[0]? = some (ofB w0) := rfl
      have a1 : ([w0, w1].map ofB)[1]? = some (ofB w1) := rfl
      rw [show (((([w0, w1].map ofB).map cS).length : Int) != 2) = false from rfl, sel_ff, show (0 : Int) = ((0 : Nat) : Int) from rfl, show (1 : Int) = ((1 : Nat) : Int) from rfl, ix_at a0, ix_at a1]
      simp only [sel_not, ofB_lit]
      obtain ⟨n, hn, hn2⟩ := refnumber_eq (ofB w1) (by rw [size_ofB]; omega)
      rw [bl_ofB] at hn hn2
      by_cases h0 : w0 = kLower
      · rw [show decide (w0 = bl (⟨#[108, 111, 119, 101, 114]⟩ : ByteArray)) = true from decide_eq_true h0, sel_tt, hn]
        refine ⟨n, ?_, ?_⟩
        · show some (n, (numF w1).isSome) = some (n, (if w0 = kLower then numF w1 else none).isSome)
          rw [if_pos h0]
        · intro m hm
          have hm : (if w0 = kLower then numF w1 else none) = some m := hm
          rw [if_pos h0] at hm
          exact hn2 m hm
      · rw [show decide (w0 = bl (⟨#[108, 111, 119, 101, 114]⟩ : ByteArray)) = false from decide_eq_false h0, sel_ff]
        refine ⟨0, ?_, ?_⟩
        · show some ((0 : Int), false) = some (0, (if w0 = kLower then numF w1 else none).isSome)
          rw [if_neg h0]
          rfl
        · intro m hm
          have hm : (if w0 = kLower then numF w1 else none) = some m := hm
          rw [if_neg h0] at hm
          cases hm
theorem head_eq (s : ByteArray) : M_certificate_head s = some (match headF (bl s) with | some x => (x, true) | none => (0, false)) := by
  rw [M_certificate_head, lit_eq, headF]
  by_cases h : bl s = kUnsolv
  · rw [show decide (bl s = bl (⟨#[117, 110, 115, 111, 108, 118, 97, 98, 108, 101]⟩ : ByteArray)) = true from decide_eq_true h, sel_tt, if_pos h]
  · rw [show decide (bl s = bl (⟨#[117, 110, 115, 111, 108, 118, 97, 98, 108, 101]⟩ : ByteArray)) = false from decide_eq_false h, sel_ff, if_neg h, cutPrefix_model, ob2_some]
    have hp : bl (⟨#[108, 111, 119, 101, 114, 32]⟩ : ByteArray) = kLower ++ [32] := rfl
    have hk : (32 : UInt8) ∉ kLower := by decide
    rw [hp]
    cases hpre : Lib.hasPrefix (bl s) (kLower ++ [32]) with
    | false =>
      have hno : (match splitL 32 (bl s) with | [w0, w1] => if w0 = kLower then numF w1 else none | _ => none) = none := by
        split
        · rename_i w0 w1 hsp
          rw [if_neg]
          intro h0
          rcases splitL_front hsp with ⟨h1, _⟩ | ⟨r, h1, _⟩
          · cases h1
          · rw [h1, h0, show kLower ++ 32 :: r = (kLower ++ [32]) ++ r from by simp, (prefix_yes _ r).1] at hpre
            cases hpre
        · rfl
      rw [hno]
      rfl
    | true =>
      obtain ⟨r, hr⟩ := prefix_of hpre
      rw [hr, (prefix_yes _ r).2, number_eq, bl_ofB]
      have hF : (match splitL 32 ((kLower ++ [32]) ++ r) with | [w0, w1] => if w0 = kLower then numF w1 else none | _ => none) = numF r := by
        rw [show (kLower ++ [32]) ++ r = kLower ++ 32 :: r from by simp, splitL_app hk]
        rcases splitL_cases 32 r with ⟨_, e⟩ | ⟨a, b, _, e, e2⟩
        · rw [e]
          show (if kLower = kLower then numF r else none) = _
          rw [if_pos rfl]
        · have hn : numF r = none := by
            cases hn : numF r with
            | none => rfl
            | some d => exact absurd (by rw [e]; simp) (dig_ne hn (c := 32) (by decide))
          rw [hn, e2]
          cases hb : splitL 32 b with
          | nil => exact absurd hb (splitL_ne _ _)
          | cons x t => rfl
      rw [hF]
      cases numF r <;> rfl
/-- a line read, in order -/
def stepF (i : Nat) (st : Int × List Nogood) (l : List UInt8) : Option (Int × List Nogood) :=
  if i = 0 then (headF l).map (fun b => (b, st.2)) else (nogoodF l).map (fun g => (st.1, st.2 ++ [g]))
/-- all lines read: what they say, or the first one that says nothing -/
def runF : Nat → Int × List Nogood → List (List UInt8) → (Int × List Nogood) ⊕ Nat
  | _, st, [] => .inl st
  | i, st, l :: r => match stepF i st l with
    | some st' => runF (i + 1) st' r
    | none => .inr i
def zeroC : GCertificate := { Bound := 0, Nogoods := [] }
theorem refparse_loop (ls : List (List UInt8)) (hw : ∀ w ∈ ls, w.length ≤ 65536) (hl : ls.length ≤ 65536) : ∀ (k n : Nat) (b : Int) (gs : List Nogood), n ≤ ls.length → ls.length < k + n → gs.length ≤ n →
    M_stratagemref30_Parse_L1 (ls.map ofB) k (n : Int) b gs = some (match runF n (b, gs) (ls.drop n) with | .inl st => .inl st | .inr i => .inr (zeroC, ((i + 1 : Nat) : Int), 2)) := by
  intro k
  induction k with
  | zero => intro n b gs h1 h2; omega
  | succ k ih =>
    intro n b gs h1 h2 h3
    rw [M_stratagemref30_Parse_L1]
    simp only [sel_dec, List.length_map, sel_not, beq_int]
    by_cases hn : n < ls.length
    · rw [if_pos (by omega)]
      obtain ⟨w, hw1, hw2⟩ := drop_at hn
      have hwl := hw w (List.mem_of_getElem? hw1)
      rw [ix_at (y := ofB w) (by rw [List.getElem?_map, hw1]; rfl), hw2, runF, stepF]
      by_cases h0 : n = 0
      · obtain ⟨x, hx, hx2⟩ := first_eq (ofB w) (by rw [size_ofB]; omega)
        rw [bl_ofB] at hx hx2
        rw [if_pos (by omega), if_pos h0, hx, ob2_some, ob1_some]
        cases hf : headF w with
        | none => simp only [Option.isSome_none, sel_ff, Option.map_none]; exact congrArg (fun z => some (Sum.inr (zeroC, z, (2 : Int)))) (w64s (by omega))
        | some m =>
          simp only [Option.isSome_some, sel_tt, Option.map_some]
          rw [w64s (by omega), hx2 m hf]
          exact ih (n + 1) m gs hn (by omega) (by omega)
      · obtain ⟨x, hx, hx2⟩ := refnogood_eq (ofB w) (by rw [size_ofB]; omega)
        rw [bl_ofB] at hx hx2
        rw [if_neg (by omega), if_neg h0, hx, ob2_some, grd_t (by omega), ob1_some]
        cases hf : nogoodF w with
        | none => simp only [Option.isSome_none, sel_ff, Option.map_none]; rw [w64s (by omega)]; try rfl
        | some m =>
          simp only [Option.isSome_some, sel_tt, Option.map_some]
          rw [w64s (by omega), hx2 m hf]
          exact ih (n + 1) b (gs ++ [m]) hn (by omega) (by simp; omega)
    · rw [if_neg (by omega), List.drop_eq_nil_of_le (by omega)]
      rfl
theorem progparse_loop (ls : List (List UInt8)) (rem : List UInt8) (hw : ∀ w ∈ ls ++ [rem], w.length ≤ 65536) (hl : ls.length ≤ 65536) : ∀ (k n : Nat) (b : Int) (gs : List Nogood), n ≤ ls.length → ls.length + 1 < k + n → gs.length ≤ n →
    M_certificate_Parse_L1 ((ls ++ [rem]).map ofB) k (n : Int) b gs = some (match runF n (b, gs) (ls.drop n) with
      | .inl st => if rem = [] ∧ 0 < ls.length then .inl st else .inr (zeroC, ((ls.length + 1 : Nat) : Int), .no 2)
      | .inr i => .inr (zeroC, ((i + 1 : Nat) : Int), .no 2)) := by
  intro k
  induction k with
  | zero => intro n b gs h1 h2; omega
  | succ k ih =>
    intro n b gs h1 h2 h3
    rw [M_certificate_Parse_L1]
    have e1 : IntKind.i64.wrap ((((ls ++ [rem]).map ofB).map cS).length - 1 : Int) = ((ls.length : Nat) : Int) := by
      rw [List.length_map, List.length_map, List.length_append, w64 (by rw [List.length_singleton]; omega) (by rw [List.length_singleton]; omega)]
      simp
    rw [e1]
    simp only [sel_dec, sel_not, beq_int, List.length_map, List.length_append, List.length_singleton]
    rw [if_pos (by omega)]
    by_cases hn : n < ls.length
    · obtain ⟨w, hw1, hw2⟩ := drop_at hn
      have hat : (ls ++ [rem])[n]? = some w := by rw [List.getElem?_append_left hn]; exact hw1
      have hwl := hw w (List.mem_of_getElem? hat)
      rw [ix_at (y := ofB w) (by rw [List.getElem?_map, hat]; rfl), hw2, runF, stepF, if_pos (by omega), ob1_some, osum_inl]
      by_cases h0 : n = 0
      · rw [if_pos (by omega), if_pos h0, head_eq, bl_ofB]
        cases hf : headF w with
        | none => simp only [ob2_some, ob1_some, sel_ff, Option.map_none]; rw [w64s (by omega)]; try rfl
        | some m =>
          simp only [ob2_some, ob1_some, sel_tt, Option.map_some]
          rw [if_pos (by omega), w64s (by omega)]
          exact ih (n + 1) m gs hn (by omega) (by omega)
      · rw [if_neg (by omega), if_neg h0, nogood_eq (ofB w) (by rw [size_ofB]; omega), bl_ofB]
        have hg : (gs.length + 1) * 32 ≤ 140737488355328 := by omega
        cases hf : nogoodF w with
        | none => simp only [ob2_some, grd_t hg, ob1_some, sel_ff, Option.map_none]; rw [w64s (by omega)]; try rfl
        | some m =>
          simp only [ob2_some, grd_t hg, ob1_some, sel_tt, Option.map_some]
          rw [if_pos (by omega), w64s (by omega)]
          exact ih (n + 1) b (gs ++ [m]) hn (by omega) (by simp; omega)
    · have hnl : n = ls.length := by omega
      subst hnl
      have hat : (ls ++ [rem])[ls.length]? = some rem := by simp
      have hwl := hw rem (by simp)
      rw [ix_at (y := ofB rem) (by rw [List.getElem?_map, hat]; rfl), List.drop_eq_nil_of_le (Nat.le_refl _), runF, if_neg (by omega), ofB_lit]
      have hdone : ∀ (x : Option (Bool × Int × List Nogood)), (∃ v, x = some v) → ob1 x (fun (v120, v121, v122) => sel v120 (if (ls.length : Int) < (ls.length : Int) then M_certificate_Parse_L1 ((ls ++ [rem]).map ofB) k (IntKind.i64.wrap ((ls.length : Int) + 1)) v121 v122 else some (.inr (zeroC, IntKind.i64.wrap ((ls.length : Int) + 1), .no 2))) (some (.inr (zeroC, IntKind.i64.wrap ((ls.length : Int) + 1), .no 2)))) = some (.inr (zeroC, ((ls.length + 1 : Nat) : Int), .no 2)) := by
        rintro x ⟨⟨v1, v2, v3⟩, rfl⟩
        show sel v1 (if (ls.length : Int) < (ls.length : Int) then M_certificate_Parse_L1 ((ls ++ [rem]).map ofB) k (IntKind.i64.wrap ((ls.length : Int) + 1)) v2 v3 else some (.inr (zeroC, IntKind.i64.wrap ((ls.length : Int) + 1), .no 2))) (some (.inr (zeroC, IntKind.i64.wrap ((ls.length : Int) + 1), .no 2))) = _
        rw [if_neg (by omega), w64s (by omega)]
        cases v1 <;> rfl
      have hex : ∃ v, (if (ls.length : Int) = 0 then ob2 (M_certificate_head (ofB rem)) (fun z124 z125 => some (z125, z124, gs)) else ob2 (M_certificate_nogood (ofB rem)) (fun z126 z127 => grd ((gs.length + 1) * 32 ≤ 140737488355328) (some (z127, b, gs ++ [z126])))) = some v := by
        have hg : (gs.length + 1) * 32 ≤ 140737488355328 := by omega
        split
        · rw [head_eq]
          cases headF (bl (ofB rem)) <;> exact ⟨_, rfl⟩
        · rw [nogood_eq (ofB rem) (by rw [size_ofB]; omega)]
          cases nogoodF (bl (ofB rem)) <;> simp only [ob2_some, grd_t hg] <;> exact ⟨_, rfl⟩
      show _ = some (if rem = [] ∧ 0 < ls.length then Sum.inl (b, gs) else Sum.inr (zeroC, ((ls.length + 1 : Nat) : Int), Er.no 2))
      by_cases hr : rem = []
      · rw [show decide (rem = bl (⟨#[]⟩ : ByteArray)) = true from decide_eq_true hr, sel_tt]
        by_cases h0 : ls.length = 0
        · rw [if_neg (show ¬ (ls.length : Int) > 0 by omega), ob1_some, osum_inl, if_neg (show ¬ (rem = [] ∧ 0 < ls.length) from fun h => by omega)]
          exact hdone _ hex
        · rw [if_pos (show (ls.length : Int) > 0 by omega), ob1_some, osum_inr, if_pos (show rem = [] ∧ 0 < ls.length from ⟨hr, by omega⟩)]
      · rw [show decide (rem = bl (⟨#[]⟩ : ByteArray)) = false from decide_eq_false hr, sel_ff, ob1_some, osum_inl, if_neg (show ¬ (rem = [] ∧ 0 < ls.length) from fun h => hr h.1)]
        exact hdone _ hex
theorem pieces_last (l : List UInt8) : ∃ ls rem, splitL 10 l = ls ++ [rem] := by
  have h := splitL_ne 10 l
  exact ⟨_, _, (List.dropLast_concat_getLast h).symm⟩
/-- what a text says, by the document -/
def parseF (l : List UInt8) : GCertificate × Int × Int :=
  if l.length > 65536 then (zeroC, 0, 5) else
    match runF 0 (0, []) (splitL 10 l).dropLast with
    | .inr i => (zeroC, ((i + 1 : Nat) : Int), 2)
    | .inl st => if (splitL 10 l).getLastD [] = [] ∧ 0 < (splitL 10 l).dropLast.length then (if checkF st.1 st.2 = 0 then ({ Bound := st.1, Nogoods := st.2 }, 0, 0) else (zeroC, 0, checkF st.1 st.2)) else (zeroC, (((splitL 10 l).dropLast.length + 1 : Nat) : Int), 2)
theorem runF_small : ∀ (ls : List (List UInt8)) (i : Nat) (st st' : Int × List Nogood), (∀ w ∈ ls, w.length ≤ 65536) → runF i st ls = .inl st' → st'.2.length ≤ st.2.length + ls.length ∧ ((∀ g ∈ st.2, g.1.length ≤ 65537) → ∀ g ∈ st'.2, g.1.length ≤ 65537)
  | [], i, st, st', _, h => by simp [runF] at h; subst h; exact ⟨by simp, fun h => h⟩
  | l :: r, i, st, st', hw, h => by
    rw [runF] at h
    cases hs : stepF i st l with
    | none => rw [hs] at h; cases h
    | some st2 =>
      rw [hs] at h
      obtain ⟨h1, h2⟩ := runF_small r (i + 1) st2 st' (fun w hx => hw w (by simp [hx])) h
      rw [stepF] at hs
      split at hs
      · cases hh : headF l with
        | none => rw [hh] at hs; cases hs
        | some b => rw [hh] at hs; simp at hs; subst hs; exact ⟨by simp at h1 ⊢; omega, h2⟩
      · cases hh : nogoodF l with
        | none => rw [hh] at hs; cases hs
        | some g =>
          rw [hh] at hs
          simp at hs
          subst hs
          refine ⟨by simp at h1 ⊢; omega, fun hst => h2 (fun g' hg' => ?_)⟩
          rcases List.mem_append.1 hg' with hg' | hg'
          · exact hst g' hg'
          · simp at hg'
            subst hg'
            have hl := hw l (by simp)
            have hfacts : ∀ (ws : List (List UInt8)) (fs : List Fact), factsF ws = some fs → fs.length = ws.length := by
              intro ws
              induction ws with
              | nil => intro fs h; simp [factsF] at h; subst h; rfl
              | cons w ws ih =>
                intro fs h
                rw [factsF] at h
                split at h
                · rename_i f fs' _ hf
                  injection h with h
                  subst h
                  simp [ih fs' hf]
                · cases h
            rw [nogoodF] at hh
            have hsl := splitL_len_le 32 l
            split at hh
            · rename_i w0 w1 ws hsp
              rw [hsp] at hsl
              rw [nogW] at hh
              split at hh
              · split at hh
                · rename_i d fs _ hf
                  injection hh with hh
                  subst hh
                  have := hfacts ws fs hf
                  simp at hsl ⊢
                  omega
                · cases hh
              · cases hh
            · cases hh
theorem small_of {ls : List (List UInt8)} {st : Int × List Nogood} (hw : ∀ w ∈ ls, w.length ≤ 65536) (hl : ls.length ≤ 65537) (h : runF 0 (0, []) ls = .inl st) : smallN st.2 = true ∧ st.2.length ≤ 65537 := by
  obtain ⟨h1, h2⟩ := runF_small ls 0 (0, []) st hw h
  have h3 := h2 (fun g hg => by cases hg)
  simp at h1
  refine ⟨?_, by omega⟩
  simp only [smallN, Bool.and_eq_true, decide_eq_true_eq, List.all_eq_true]
  exact ⟨by omega, fun g hg => by have := h3 g hg; omega⟩
theorem pieces_len (l : List UInt8) : (splitL 10 l).dropLast.length ≤ l.length := by
  have := splitL_len_le 10 l
  simp
  omega
theorem last_dec (l : List (List UInt8)) (x : List UInt8) : (l ++ [x]).getLastD [] = x := by simp
theorem refparse_eq (s : ByteArray) : M_stratagemref30_Parse s = some (parseF (bl s)) := by
  rw [M_stratagemref30_Parse, sel_dec, parseF, bl_len]
  by_cases hbig : s.size > 65536
  · rw [if_pos (by omega), if_pos hbig]
    rfl
  · rw [if_neg (by omega), if_neg hbig, lines_eq s (by omega), ob2_some]
    obtain ⟨ls, rem, hp⟩ := pieces_last (bl s)
    have hlen := splitL_len_le 10 (bl s)
    rw [bl_len, hp] at hlen
    simp at hlen
    have hmem : ∀ w ∈ ls ++ [rem], w.length ≤ 65536 := fun w hw => by have := splitL_mem_len (c := 10) (l := bl s) (w := w) (by rw [hp]; exact hw); rw [bl_len] at this; omega
    have hml : ∀ w ∈ ls, w.length ≤ 65536 := fun w hw => hmem w (by simp [hw])
    rw [hp, List.map_append, List.map_singleton, List.dropLast_concat, List.dropLast_concat, last_dec]
    have hloop := refparse_loop ls hml (by omega) (ls.length + 1) 0 0 [] (by omega) (by omega) (by simp)
    rw [List.drop_zero, show ((0 : Nat) : Int) = 0 from rfl] at hloop
    rw [show ((((ls.map ofB).map cS).length : Int)).toNat + 1 = ls.length + 1 from by simp, hloop, ob1_some]
    cases hr : runF 0 (0, []) ls with
    | inr i => rfl
    | inl st =>
      obtain ⟨b, gs⟩ := st
      obtain ⟨hsm, hgl⟩ := small_of hml (by omega) hr
      simp only [osum_inl, sel_not, List.length_map, beq_int, sel_dec]
      have e1 : IntKind.i64.wrap ((ls.length : Int) + 1) = ((ls.length + 1 : Nat) : Int) := w64s (by omega)
      rw [e1]
      by_cases hrem : rem = []
      · subst hrem
        by_cases h0 : ls.length = 0
        · rw [if_neg (show ¬ (([] : List UInt8) = [] ∧ 0 < ls.length) from fun h => by omega)]
          rw [show (([] : List UInt8) == []) = true from rfl, sel_tt, if_pos (by omega)]
          rfl
        · rw [if_pos (show (([] : List UInt8) = [] ∧ 0 < ls.length) from ⟨rfl, by omega⟩), show (([] : List UInt8) == []) = true from rfl, sel_tt, if_neg (by omega), ob1_some, osum_inl, grd_t (show gs.length ≤ 140737488355328 by have : gs.length ≤ 65537 := hgl; omega), M_stratagemref30_Check, grd_t hsm, ob1_some]
          by_cases hc : checkF b gs = 0
          · rw [show ((checkF b gs != 0) = false) from by simp [hc], sel_ff, if_pos hc]
          · rw [show ((checkF b gs != 0) = true) from by simpa using hc, sel_tt, if_neg hc]
            rfl
      · rw [if_neg (show ¬ (rem = [] ∧ 0 < ls.length) from fun h => hrem h.1), show ((rem == []) = false) from by simpa using hrem, sel_ff, ob1_some]
        rfl
theorem progparse_eq (s : ByteArray) : M_certificate_Parse s = some ((parseF (bl s)).1, (parseF (bl s)).2.1, erOf (parseF (bl s)).2.2) := by
  rw [M_certificate_Parse, sel_dec, parseF, bl_len]
  by_cases hbig : s.size > 65536
  · rw [if_pos (by omega), if_pos hbig]
    rfl
  · rw [if_neg (by omega), if_neg hbig, M_strings_Split, grd_t (by omega), grd_t (by exact Nat.le_refl 1), split_eq 10 _ _ (Nat.le_refl _), ob1_some]
    obtain ⟨ls, rem, hp⟩ := pieces_last (bl s)
    have hlen := splitL_len_le 10 (bl s)
    rw [bl_len, hp] at hlen
    simp at hlen
    have hmem : ∀ w ∈ ls ++ [rem], w.length ≤ 65536 := fun w hw => by have := splitL_mem_len (c := 10) (l := bl s) (w := w) (by rw [hp]; exact hw); rw [bl_len] at this; omega
    have hml : ∀ w ∈ ls, w.length ≤ 65536 := fun w hw => hmem w (by simp [hw])
    rw [hp, List.dropLast_concat, last_dec]
    have hloop := progparse_loop ls rem hmem (by omega) (ls.length + 2) 0 0 [] (by omega) (by omega) (by simp)
    rw [List.drop_zero, show ((0 : Nat) : Int) = 0 from rfl] at hloop
    rw [show (((((ls ++ [rem]).map ofB).map cS).length : Int)).toNat + 1 = ls.length + 2 from by simp, hloop, ob1_some]
    cases hr : runF 0 (0, []) ls with
    | inr i => rfl
    | inl st =>
      obtain ⟨b, gs⟩ := st
      obtain ⟨hsm, hgl⟩ := small_of hml (by omega) hr
      show osum _ _ (if rem = [] ∧ 0 < ls.length then Sum.inl (b, gs) else Sum.inr (zeroC, ((ls.length + 1 : Nat) : Int), Er.no 2)) = some ((if rem = [] ∧ 0 < ls.length then (if checkF b gs = 0 then (({ Bound := b, Nogoods := gs } : GCertificate), (0 : Int), (0 : Int)) else (zeroC, 0, checkF b gs)) else (zeroC, ((ls.length + 1 : Nat) : Int), 2)).1, (if rem = [] ∧ 0 < ls.length then (if checkF b gs = 0 then (({ Bound := b, Nogoods := gs } : GCertificate), (0 : Int), (0 : Int)) else (zeroC, 0, checkF b gs)) else (zeroC, ((ls.length + 1 : Nat) : Int), 2)).2.1, erOf (if rem = [] ∧ 0 < ls.length then (if checkF b gs = 0 then (({ Bound := b, Nogoods := gs } : GCertificate), (0 : Int), (0 : Int)) else (zeroC, 0, checkF b gs)) else (zeroC, ((ls.length + 1 : Nat) : Int), 2)).2.2)
      by_cases h : rem = [] ∧ 0 < ls.length
      · rw [if_pos h, if_pos h]
        show grd (gs.length ≤ 140737488355328) _ = _
        rw [grd_t (show gs.length ≤ 140737488355328 by have : gs.length ≤ 65537 := hgl; omega), M_certificate_Check, grd_t hsm, ob1_some]
        by_cases hc : checkF b gs = 0
        · rw [if_pos hc]
          show erM (erOf (checkF b gs)) _ _ = _
          rw [hc]
          rfl
        · rw [if_neg hc]
          show erM (erOf (checkF b gs)) _ _ = some (zeroC, 0, erOf (checkF b gs))
          rw [erOf, if_neg hc]
          rfl
      · rw [if_neg h, if_neg h]
        rfl
theorem num_erOf (z : Int) : M_stratagembase_Num (erOf z) = some z := by
  unfold erOf
  by_cases h : z = 0
  · rw [if_pos h, h]; rfl
  · rw [if_neg h]; rfl
theorem parses_true (s : ByteArray) : M_stratagemlaw30_CertificateParses s = some true := by
  rw [M_stratagemlaw30_CertificateParses, sel_dec]
  by_cases hbig : (s.size : Int) > 3000
  · rw [if_pos hbig]
    rfl
  · rw [if_neg hbig, M_awake, ob1_some]
    show ob3 (M_certificate_Parse s) _ = _
    rw [progparse_eq, refparse_eq]
    obtain ⟨c, n, z, hc⟩ : ∃ c n z, parseF (bl s) = (c, n, z) := ⟨_, _, _, rfl⟩
    rw [hc]
    simp only [ob3_some]
    rw [num_erOf, ob1_some, show (z == z) = true from by simp, show (n == n) = true from by simp, sel_tt, sel_tt]
    have hsm : smallN c.Nogoods = true := by
      rw [parseF, bl_len, if_neg (by omega)] at hc
      obtain ⟨ls, rem, hp⟩ := pieces_last (bl s)
      have hlen := splitL_len_le 10 (bl s)
      rw [bl_len, hp] at hlen
      simp at hlen
      have hml : ∀ w ∈ ls, w.length ≤ 65536 := fun w hw => by have := splitL_mem_len (c := 10) (l := bl s) (w := w) (by rw [hp]; simp [hw]); rw [bl_len] at this; omega
      rw [hp, List.dropLast_concat] at hc
      cases hr : runF 0 (0, []) ls with
      | inr i => rw [hr] at hc; injection hc with hc _; rw [← hc]; rfl
      | inl st =>
        rw [hr] at hc
        have hs2 := (small_of hml (by omega) hr).1
        simp only at hc
        split at hc
        · split at hc
          · injection hc with hc _; rw [← hc]; exact hs2
          · injection hc with hc _; rw [← hc]; rfl
        · injection hc with hc _; rw [← hc]; rfl
    rw [M_stratagemlaw30_Same, grd_t hsm, grd_t hsm, sameC_self]
    rfl
end Go.Proofs.YticdfbhbbapbdaaDoor.Am
/- Opening arguments: slices of numbers, of facts, of nogoods, a certificate. -/
namespace Go.Proofs.YticdfbhbbapbdaaDoor
open Go.RowKit Go.ChangeShapes Go.WideShapes Go.Deep Go.Joins

def I64 (x : Int) : Prop := -9223372036854775808 ≤ x ∧ x ≤ 9223372036854775807
theorem I64.of {x : Int} (h : (Lit.int .i64 x).wf = true) : I64 x := by
  have := bounds_i64 h
  exact this

section
variable {H : Type} {enc : TypeId × Value → H} {P : Program} {w : World} {base : Nat} {spare : Nat → Bool} {held : Bool}

/-- within the form's reach -/
def Sized (P : Program) (t : TypeId) (d : DataW H) : Prop := ∀ n ∈ d.weights P t, n ≤ reachBytes
theorem sized_arg {ts : List TypeId} {ds : List (DataW H)} (h : (DataW.weightsEach P ts ds).all (· ≤ reachBytes) = true) {j : Nat} {t : TypeId} {d : DataW H} (ht : ts[j]? = some t) (hd : ds[j]? = some d) : Sized P t d :=
  fun n hn => of_decide_eq_true (List.all_eq_true.1 h n (DataW.weights_mem_each ht hd n hn))
theorem sized_field {t : TypeId} {fs : Array Field} {parts : List (DataW H)} (h : Sized P t (.agg parts)) (hu : P.underlying t = some (.struct fs)) {j : Nat} {f : Field} {d : DataW H} (hf : fs[j]? = some f) (hd : parts[j]? = some d) : Sized P f.type d :=
  fun n hn => h n (by
    simp only [DataW.weights, hu]
    exact DataW.weights_mem_each (j := j) (by simp [List.getElem?_map, hf]) hd n hn)
theorem weightsAll_mem {e : TypeId} : ∀ {l : List (DataW H)} {d : DataW H}, d ∈ l → ∀ n ∈ d.weights P e, n ∈ DataW.weightsAll P e l
  | x :: l, d, hd, n, hn => by
    simp only [DataW.weightsAll, List.mem_append]
    rcases List.mem_cons.1 hd with rfl | h
    · exact Or.inl hn
    · exact Or.inr (weightsAll_mem h n hn)
theorem sized_elem {t e : TypeId} {elems sp : List (DataW H)} (h : Sized P t (.slice elems sp)) (hu : P.underlying t = some (.slice e)) {d : DataW H} (hd : d ∈ elems) : Sized P e d :=
  fun n hn => h n (by
    simp only [DataW.weights, hu, List.mem_cons, List.mem_append]
    exact Or.inr (Or.inl (weightsAll_mem hd n hn)))
theorem sized_len {t e : TypeId} {elems sp : List (DataW H)} (h : Sized P t (.slice elems sp)) (hu : P.underlying t = some (.slice e)) : elems.length * P.bytesOf e ≤ 140737488355328 := by
  have h1 := h ((elems.length + sp.length) * P.bytesOf e) (by simp [DataW.weights, hu])
  have h2 : elems.length * P.bytesOf e ≤ (elems.length + sp.length) * P.bytesOf e := Nat.mul_le_mul_right _ (by omega)
  have h3 : reachBytes ≤ 140737488355328 := by decide
  omega

theorem open_slice_fields {t e : TypeId} {fs : Array Field} {fuel : Nat} {cs : List Value} {x : DataW H × List MemPlace} (ht : P.underlying t = some (.slice e)) (he : P.underlying e = some (.struct fs))
    (hone : oneCellFields P fs = true) (hC : P.cellsOf e = fs.size) (h : DataW.trod enc P w base spare held fuel t cs = some x) :
    (cs = [.slice none 0 0] ∧ x = (.nil, [])) ∨
    ∃ (a : Addr) (len cap m : Nat) (D : Nat → DataW H) (Pl : Nat → List MemPlace), cs = [.slice (some a) len cap] ∧ base ≤ a.block ∧ len ≤ cap ∧ cap ≤ maxLen ∧ m = (if spare a.block then cap else len) ∧
      x = (.slice ((List.range len).map D) ((List.range (m - len)).map fun j => D (len + j)), MemPlace.row a (m * fs.size) ++ (List.range m).flatMap Pl) ∧
      ∀ i, i < m → ∃ (ys : List (DataW H × List MemPlace)) (n : Nat), D i = .agg (ys.map (·.1)) ∧ Pl i = ys.flatMap (·.2) ∧ ys.length = fs.size ∧
        ∀ (j : Nat) (f : Field), fs[j]? = some f → ∃ (v : Value) (y : DataW H × List MemPlace), w.cell? (a.add (i * fs.size + j)) = some v ∧ ys[j]? = some y ∧ DataW.trod enc P w base spare held n f.type [v] = some y := by
  rcases open_slice ht h with h0 | ⟨a, len, cap, m, n, D, Pl, hcs, hb, hl, hm, hmm, hx, hi⟩
  · exact .inl h0
  · refine .inr ⟨a, len, cap, m, D, Pl, hcs, hb, hl, hm, hmm, by rw [hC] at hx; exact hx, fun i him => ?_⟩
    obtain ⟨cs', hc, ht'⟩ := hi i him
    rw [hC] at hc
    obtain ⟨ys, n', hn', hy, hlen, hyl, hf⟩ := DataW.trod_struct he ht'
    obtain ⟨_, hcl, hat⟩ := World.cells?_some hc
    simp only [Prod.mk.injEq] at hy
    refine ⟨ys, n', hy.1, hy.2, hyl, fun j f hj => ?_⟩
    obtain ⟨ho, hk⟩ := hone_of hone j f hj
    have hjl : j < fs.size := (Array.getElem?_eq_some_iff.1 hj).1
    have hcell := hat j hjl
    have hv : cs'[j]? = some (cs'[j]'(by omega)) := List.getElem?_eq_getElem (by omega)
    have h1 := hf j f hj
    rw [ho, hk] at h1
    have hone' : (cs'.drop j).take 1 = [cs'[j]'(by omega)] := by
      rw [List.drop_eq_getElem_cons (by omega)]
      rfl
    rw [hone'] at h1
    have hys : ys[j]? = some (ys[j]'(by omega)) := List.getElem?_eq_getElem (by omega)
    refine ⟨_, _, ?_, hys, h1.trans hys⟩
    rw [← Go.Deep.add_add, hcell, hv]
end

theorem spot_of_cell {w : World} {p : Addr} {v : Value} (h : w.cell? p = some v) : p.spot = none := by
  unfold World.cell? at h
  split at h
  · split at h
    · cases h
    · rename_i hs; simpa using hs
  · cases h
theorem addr_of_cell {w : World} {a : Addr} {k : Nat} {v : Value} (h0 : ∃ u, w.cell? (a.add 0) = some u) (h : w.cell? (a.add k) = some v) : a = ⟨a.block, a.off, none⟩ ∧ w.cell? ⟨a.block, a.off + k, none⟩ = some v := by
  obtain ⟨u, hu⟩ := h0
  have hs := spot_of_cell hu
  obtain ⟨b, off, sp⟩ := a
  simp [Addr.add] at hs
  subst hs
  refine ⟨rfl, ?_⟩
  rw [← h]
  congr 1
  unfold Addr.add
  split
  · subst k; rfl
  · rfl

theorem list_of {α : Type} (n : Nat) (R : Nat → α → Prop) (h : ∀ i, i < n → ∃ x, R i x) : ∃ l : List α, l.length = n ∧ ∀ k x, l[k]? = some x → R k x := by
  induction n with
  | zero => exact ⟨[], rfl, fun k x hx => by simp at hx⟩
  | succ n ih =>
    obtain ⟨l, hl, hr⟩ := ih (fun i hi => h i (by omega))
    obtain ⟨x, hx⟩ := h n (by omega)
    refine ⟨l ++ [x], by simp [hl], fun k y hy => ?_⟩
    by_cases hk : k < n
    · rw [List.getElem?_append_left (by omega)] at hy
      exact hr k y hy
    · rw [List.getElem?_append_right (by omega)] at hy
      have hk' : k - l.length = 0 := by
        have := (List.getElem?_eq_some_iff.1 hy).1
        simp at this
        omega
      rw [hk'] at hy
      simp at hy
      subst hy
      obtain rfl : k = n := by omega
      exact hx

variable {H : Type} {enc : TypeId × Value → H} {w : World} {base : Nat} {spare : Nat → Bool} {held : Bool}
theorem open_intsAt {fuel : Nat} {v : Value} {x : DataW H × List MemPlace} (h : DataW.trod enc Tryd.prog w base spare held fuel 36 [v] = some x) (hs : Sized Tryd.prog 36 x.1) : ∃ l, IntsAt w v l ∧ ∀ z ∈ l, I64 z := by
  rcases open_slice Tryd.underlying36 h with ⟨hv, _⟩ | ⟨a, len, cap, m, n, D, Pl, hcs, hb, hl, hm, hmm, hx, hi⟩
  · injection hv with hv
    subst hv
    exact ⟨[], ⟨none, 0, rfl, by simp, fun k x hx => by simp at hx⟩, fun z hz => by cases hz⟩
  · injection hcs with hcs
    subst hcs
    subst hx
    have hlen := sized_len hs Tryd.underlying36
    have hby : Tryd.prog.bytesOf 3 = 8 := by kernel_rfl
    have hcl : Tryd.prog.cellsOf 3 = 1 := by kernel_rfl
    simp only [List.length_map, List.length_range, hby] at hlen
    have hml : len ≤ m := by rw [hmm]; split <;> omega
    have hcell : ∀ i, i < len → ∃ z, w.cell? (a.add i) = some (.int .i64 z) ∧ I64 z := by
      intro i hi'
      obtain ⟨cs', hc, ht'⟩ := hi i (by omega)
      rw [hcl] at hc
      obtain ⟨z, hz, _, wz⟩ := DataW.trod_int Tryd.underlying3 ht'
      obtain ⟨_, hcl', hat⟩ := World.cells?_some hc
      subst hz
      have := hat 0 (by omega)
      simp [Go.Deep.add_add] at this
      exact ⟨z, this, I64.of wz⟩
    obtain ⟨l, hl', hat⟩ := list_of len (fun i z => w.cell? (a.add i) = some (.int .i64 z) ∧ I64 z) hcell
    refine ⟨l, ⟨some a, cap, by rw [hl'], by rw [hl']; exact hlen, fun k x hx => ?_⟩, fun z hz => ?_⟩
    · obtain ⟨z0, h0, _⟩ := hcell 0 (by have := (List.getElem?_eq_some_iff.1 hx).1; omega)
      obtain ⟨e1, e2⟩ := addr_of_cell ⟨_, h0⟩ (hat k x hx).1
      exact ⟨a.block, a.off, by rw [← e1], e2⟩
    · obtain ⟨k, hk⟩ := List.getElem?_of_mem hz
      exact (hat k z hk).2
theorem open_factsAt {fuel : Nat} {v : Value} {x : DataW H × List MemPlace} (h : DataW.trod enc Tryd.prog w base spare held fuel 43 [v] = some x) (hs : Sized Tryd.prog 43 x.1) : ∃ l, FactsAt w v l ∧ ∀ z ∈ l, I64 z.1 ∧ I64 z.2 := by
  rcases open_slice_fields Tryd.underlying43 Tryd.underlying54 (by kernel_rfl) (by kernel_rfl) h with ⟨hv, _⟩ | ⟨a, len, cap, m, D, Pl, hcs, hb, hl, hm, hmm, hx, hi⟩
  · injection hv with hv
    subst hv
    exact ⟨[], ⟨none, 0, rfl, by simp, fun k x hx => by simp at hx⟩, fun z hz => by cases hz⟩
  · injection hcs with hcs
    subst hcs
    subst hx
    have hlen := sized_len hs Tryd.underlying43
    have hby : Tryd.prog.bytesOf 54 = 16 := by kernel_rfl
    simp only [List.length_map, List.length_range, hby] at hlen
    have hml : len ≤ m := by rw [hmm]; split <;> omega
    have hcell : ∀ i, i < len → ∃ z : Fact, (w.cell? (a.add (i * 2 + 0)) = some (.int .i64 z.1) ∧ w.cell? (a.add (i * 2 + 1)) = some (.int .i64 z.2)) ∧ I64 z.1 ∧ I64 z.2 := by
      intro i hi'
      obtain ⟨ys, n', _, _, hyl, hf⟩ := hi i (by omega)
      obtain ⟨v0, y0, c0, _, t0⟩ := hf 0 _ rfl
      obtain ⟨v1, y1, c1, _, t1⟩ := hf 1 _ rfl
      obtain ⟨z0, hz0, _, wz0⟩ := DataW.trod_int Tryd.underlying3 t0
      obtain ⟨z1, hz1, _, wz1⟩ := DataW.trod_int Tryd.underlying3 t1
      injection hz0 with hz0
      injection hz1 with hz1
      subst hz0 hz1
      exact ⟨(z0, z1), ⟨c0, c1⟩, I64.of wz0, I64.of wz1⟩
    obtain ⟨l, hl', hat⟩ := list_of len (fun i (z : Fact) => (w.cell? (a.add (i * 2 + 0)) = some (.int .i64 z.1) ∧ w.cell? (a.add (i * 2 + 1)) = some (.int .i64 z.2)) ∧ I64 z.1 ∧ I64 z.2) hcell
    refine ⟨l, ⟨some a, cap, by rw [hl'], by rw [hl']; exact hlen, fun k x hx => ?_⟩, fun z hz => ?_⟩
    · obtain ⟨z0, ⟨h0, _⟩, _⟩ := hcell 0 (by have := (List.getElem?_eq_some_iff.1 hx).1; omega)
      obtain ⟨e1, e2⟩ := addr_of_cell ⟨_, h0⟩ (hat k x hx).1.1
      obtain ⟨_, e3⟩ := addr_of_cell ⟨_, h0⟩ (hat k x hx).1.2
      exact ⟨a.block, a.off, by rw [← e1], e2, e3⟩
    · obtain ⟨k, hk⟩ := List.getElem?_of_mem hz
      exact (hat k z hk).2
theorem open_nogoodsAt {fuel : Nat} {v : Value} {x : DataW H × List MemPlace} (h : DataW.trod enc Tryd.prog w base spare held fuel 23 [v] = some x) (hs : Sized Tryd.prog 23 x.1) : ∃ l, NogoodsAt w v l ∧ ∀ z ∈ l, I64 z.2 ∧ ∀ f ∈ z.1, I64 f.1 ∧ I64 f.2 := by
  rcases open_slice_fields Tryd.underlying23 Tryd.underlying45 (by kernel_rfl) (by kernel_rfl) h with ⟨hv, _⟩ | ⟨a, len, cap, m, D, Pl, hcs, hb, hl, hm, hmm, hx, hi⟩
  · injection hv with hv
    subst hv
    exact ⟨[], ⟨none, 0, rfl, by simp, fun k x hx => by simp at hx⟩, fun z hz => by cases hz⟩
  · injection hcs with hcs
    subst hcs
    subst hx
    have hlen := sized_len hs Tryd.underlying23
    have hby : Tryd.prog.bytesOf 45 = 32 := by kernel_rfl
    simp only [List.length_map, List.length_range, hby] at hlen
    have hml : len ≤ m := by rw [hmm]; split <;> omega
    have hcell : ∀ i, i < len → ∃ z : Nogood, (∃ fv, w.cell? (a.add (i * 2 + 0)) = some fv ∧ FactsAt w fv z.1 ∧ w.cell? (a.add (i * 2 + 1)) = some (.int .i64 z.2)) ∧ I64 z.2 ∧ ∀ f ∈ z.1, I64 f.1 ∧ I64 f.2 := by
      intro i hi'
      obtain ⟨ys, n', hD, _, hyl, hf⟩ := hi i (by omega)
      have hsi : Sized Tryd.prog 45 (D i) := sized_elem hs Tryd.underlying23 (List.mem_map.2 ⟨i, by simpa using hi', rfl⟩)
      rw [hD] at hsi
      obtain ⟨v0, y0, c0, hy0, t0⟩ := hf 0 _ rfl
      obtain ⟨v1, y1, c1, _, t1⟩ := hf 1 _ rfl
      obtain ⟨fl, hfl, hfw⟩ := open_factsAt t0 (sized_field hsi Tryd.underlying45 (j := 0) rfl (by simp [hy0]))
      obtain ⟨z1, hz1, _, wz1⟩ := DataW.trod_int Tryd.underlying3 t1
      injection hz1 with hz1
      subst hz1
      exact ⟨(fl, z1), ⟨v0, c0, hfl, c1⟩, I64.of wz1, hfw⟩
    obtain ⟨l, hl', hat⟩ := list_of len _ hcell
    refine ⟨l, ⟨some a, cap, by rw [hl'], by rw [hl']; exact hlen, fun k x hx => ?_⟩, fun z hz => ?_⟩
    · obtain ⟨z0, ⟨fv0, h0, _⟩, _⟩ := hcell 0 (by have := (List.getElem?_eq_some_iff.1 hx).1; omega)
      obtain ⟨⟨fv, h1, h2, h3⟩, _⟩ := hat k x hx
      obtain ⟨e1, e2⟩ := addr_of_cell ⟨_, h0⟩ h1
      obtain ⟨_, e3⟩ := addr_of_cell ⟨_, h0⟩ h3
      exact ⟨a.block, a.off, fv, by rw [← e1], e2, h2, e3⟩
    · obtain ⟨k, hk⟩ := List.getElem?_of_mem hz
      exact (hat k z hk).2
set_option maxRecDepth 100000 in
theorem open_cert {r : Reach} {b0 : Nat} {v : Value} {d : DataW H} {p : List MemPlace} (hv : Value.okWide Tryd.prog w r b0 25 v) (h : DataW.Trod enc Tryd.prog w base spare held 25 v d p) (hs : Sized Tryd.prog 25 d) :
    ∃ bd nv l, v = .agg #[.int .i64 bd, nv] ∧ I64 bd ∧ NogoodsAt w nv l ∧ ∀ z ∈ l, I64 z.2 ∧ ∀ f ∈ z.1, I64 f.1 ∧ I64 f.2 := by
  obtain ⟨c0, c1, y0, y1, m, rfl, rfl, rfl, hy0, hy1⟩ := open_agg2 Tryd.underlying25 (by kernel_rfl) (by kernel_rfl) hv h
  obtain ⟨z, hz, _, wz⟩ := DataW.trod_int Tryd.underlying3 hy0
  injection hz with hz
  subst hz
  obtain ⟨l, hl, hw⟩ := open_nogoodsAt hy1 (sized_field hs Tryd.underlying25 (j := 1) rfl rfl)
  exact ⟨z, c1, l, rfl, I64.of wz, hl, hw⟩
end Go.Proofs.YticdfbhbbapbdaaDoor
/- Opening arguments for the abstract machine: readers that compose. -/
namespace Go.Proofs.YticdfbhbbapbdaaDoor.Am
open Go.RowKit Go.ChangeShapes Go.WideShapes Go.Deep Go.Joins

/-- nothing is owned at the start -/
abbrev mZ : MM := mO (fun _ => False)
theorem noZ (b : Nat) : ¬ Owned nov mZ b := fun h => owned_nov.1 h

section
variable {H : Type} {enc : TypeId × Value → H} {P : Program} {w : World} {base : Nat} {spare : Nat → Bool} {held : Bool}
/-- cells that stand for the values -/
def CellsRv (w : World) (es : List AV) (cs : List Value) : Prop := es.length = cs.length ∧ (∀ (j : Nat) (y : AV) (u : Value), es[j]? = some y → cs[j]? = some u → RV w nov mZ y u ∧ u.oneCell' = true) ∧ ∀ y ∈ es, Fr y
/-- data of type t read as an α -/
def Opens (enc : TypeId × Value → H) (P : Program) (w : World) (base : Nat) (spare : Nat → Bool) (held : Bool) (t : TypeId) {α : Type} (en : α → List AV) (R : α → Prop) : Prop :=
  ∀ (fuel : Nat) (cs : List Value) (x : DataW H × List MemPlace), DataW.trod enc P w base spare held fuel t cs = some x → Sized P t x.1 → ∃ a, R a ∧ CellsRv w (en a) cs

theorem cells_one1 {y : AV} {u : Value} (h : RV w nov mZ y u) (h1 : u.oneCell' = true) (hf : Fr y) : CellsRv w [y] [u] := by
  refine ⟨rfl, fun j z v hz hv => ?_, fun z hz => by simp at hz; subst hz; exact hf⟩
  cases j with
  | zero => simp at hz hv; subst hz hv; exact ⟨h, h1⟩
  | succ j => simp at hz
theorem opens_int {t : TypeId} {k : IntKind} (ht : P.underlying t = some (.int k)) : Opens enc P w base spare held t (fun z : Int => [.c (.int k z)]) (fun z => (Lit.int k z).wf = true) := by
  intro fuel cs x h _
  obtain ⟨z, rfl, _, wz⟩ := DataW.trod_int ht h
  exact ⟨z, wz, cells_one1 (.c _) rfl (.c _)⟩
theorem opens_bool {t : TypeId} (ht : P.underlying t = some .bool) : Opens enc P w base spare held t (fun b : Bool => [.c (.bool b)]) (fun _ => True) := by
  intro fuel cs x h _
  obtain ⟨b, rfl, _⟩ := DataW.trod_bool ht h
  exact ⟨b, trivial, cells_one1 (.c _) rfl (.c _)⟩
theorem opens_str {t : TypeId} (ht : P.underlying t = some .string) : Opens enc P w base spare held t (fun s : ByteArray => [.c (.string s)]) (fun s => s.size ≤ maxLen) := by
  intro fuel cs x h _
  obtain ⟨s, rfl, _, hs⟩ := DataW.trod_string ht h
  exact ⟨s, hs, cells_one1 (.c _) rfl (.c _)⟩

theorem opens_slice {t e : TypeId} {α : Type} {en : α → List AV} {R : α → Prop} {sz by_ : Nat} (ht : P.underlying t = some (.slice e)) (hc : P.cellsOf e = sz) (hb : P.bytesOf e = by_) (hby : 0 < by_) (hsz : 0 < sz) (he : Opens enc P w base spare held e en R) :
    Opens enc P w base spare held t (fun l : List α => [.sl sz (l.map en)]) (fun l => l.length * by_ ≤ 140737488355328 ∧ ∀ x ∈ l, R x) := by
  intro fuel cs x h hs
  rcases open_slice ht h with ⟨rfl, _⟩ | ⟨a, len, cap, m, n, D, Pl, rfl, _, hl, hm, hmm, rfl, hi⟩
  · refine ⟨[], ⟨by simp, by simp⟩, cells_one1 ?_ rfl (.sl (fun e he => by cases he))⟩
    exact RV.sl (l := []) (b := 0) (off := 0) (f := fun _ _ => undef) (fun h => absurd rfl h) (Nat.zero_le _) (by simp) (fun k e h => by simp at h) (fun k j e x h => by simp at h) (fun k j e x h => by simp at h) (fun e he => by cases he)
  · have hlen := sized_len hs ht
    rw [hb] at hlen
    simp only [List.length_map, List.length_range] at hlen
    have hml : len ≤ m := by rw [hmm]; split <;> omega
    have hcell : ∀ i, i < len → ∃ z : α, R z ∧ ∃ cs', CellsRv w (en z) cs' ∧ cs'.length = sz ∧ ∀ j, j < sz → w.cell? (a.add (i * sz + j)) = cs'[j]? := by
      intro i hi'
      obtain ⟨cs', hcc, ht'⟩ := hi i (by omega)
      rw [hc] at hcc
      obtain ⟨z, hz, hcr⟩ := he n cs' _ ht' (sized_elem hs ht (List.mem_map.2 ⟨i, by simpa using hi', rfl⟩))
      obtain ⟨_, hcl', hat⟩ := World.cells?_some hcc
      exact ⟨z, hz, cs', hcr, hcl', fun j hj => by rw [← hat j hj, Go.Deep.add_add]⟩
    obtain ⟨l, hl', hat⟩ := list_of len _ hcell
    have hR : ∀ x ∈ l, R x := fun x hx => by
      obtain ⟨k, hk⟩ := List.getElem?_of_mem hx
      exact (hat k x hk).1
    have hfr : FrL (l.map en) := by
      intro e he
      obtain ⟨x, hx, rfl⟩ := List.mem_map.1 he
      obtain ⟨k, hk⟩ := List.getElem?_of_mem hx
      obtain ⟨_, cs', hcr, _⟩ := hat k x hk
      exact hcr.2.2
    refine ⟨l, ⟨by rw [hl']; exact hlen, hR⟩, cells_one1 ?_ rfl (.sl hfr)⟩
    have key : ∀ (k j : Nat) (e : List AV) (y : AV), (l.map en)[k]? = some e → e[j]? = some y → e.length = sz ∧ ∃ u, w.cell? ⟨a.block, a.off + (k * sz + j), none⟩ = some u ∧ u.oneCell' = true ∧ RV w nov mZ y u ∧ a = ⟨a.block, a.off, none⟩ ∧ a.block < w.heap.size := by
      intro k j e y hk hj
      rw [List.getElem?_map] at hk
      cases hx : l[k]? with
      | none => rw [hx] at hk; cases hk
      | some z =>
        rw [hx] at hk
        simp at hk
        subst hk
        obtain ⟨_, cs', ⟨c1, c2, _⟩, c4, c5⟩ := hat k z hx
        have hjl : j < sz := by rw [← c4, ← c1]; exact (List.getElem?_eq_some_iff.1 hj).1
        have hcj := c5 j hjl
        have hget : cs'[j]? = some (cs'[j]'(by omega)) := List.getElem?_eq_getElem _
        rw [hget] at hcj
        obtain ⟨r1, r2⟩ := c2 j y _ hj hget
        have h0 : 0 < len := by have := (List.getElem?_eq_some_iff.1 hx).1; omega
        obtain ⟨_, _, cs0, ⟨_, _, _⟩, d4, d5⟩ := hcell 0 h0
        have hz0 := d5 0 hsz
        rw [List.getElem?_eq_getElem (by omega)] at hz0
        obtain ⟨e1, e2⟩ := addr_of_cell ⟨_, by simpa using hz0⟩ hcj
        exact ⟨by rw [c1, c4], _, e2, r2, r1, e1, lt_of_cell (p := ⟨a.block, a.off + (k * sz + j), none⟩) e2⟩
    have hlen2 : (l.map en).length = len := by simp [hl']
    have := RV.sl (w := w) (vs := nov) (m := mZ) (sz := sz) (l := l.map en) (A := some a) (cap := cap) (b := a.block) (off := a.off) (f := fun k j => (w.cell? ⟨a.block, a.off + (k * sz + j), none⟩).getD undef)
      (fun hne => ?_) (by omega) (by rw [hlen2]; exact Nat.le_trans (Nat.le_mul_of_pos_right _ hby) hlen) (fun k e hk => ?_) (fun k j e y hk hj => ?_) (fun k j e y hk hj => ?_) hfr
    · rw [hlen2] at this
      exact this
    · have h0 : 0 < (l.map en).length := List.length_pos_iff.2 hne
      have hk := List.getElem?_eq_getElem h0
      obtain ⟨x0, hx0, hx0'⟩ : ∃ x0, l[0]? = some x0 ∧ (l.map en)[0] = en x0 := by
        have h1 : 0 < l.length := by simpa using h0
        exact ⟨l[0], List.getElem?_eq_getElem h1, by simp⟩
      obtain ⟨_, cs', ⟨c1, _, _⟩, c4, _⟩ := hat 0 x0 hx0
      have hel : 0 < ((l.map en)[0]).length := by rw [hx0', c1, c4]; exact hsz
      obtain ⟨_, _, _, _, _, q1, q2⟩ := key 0 0 _ _ hk (List.getElem?_eq_getElem hel)
      exact ⟨by rw [← q1], noZ _, q2⟩
    · rw [List.getElem?_map] at hk
      cases hx : l[k]? with
      | none => rw [hx] at hk; cases hk
      | some z =>
        rw [hx] at hk
        simp at hk
        subst hk
        obtain ⟨_, cs', ⟨c1, _, _⟩, c4, _⟩ := hat k z hx
        rw [c1, c4]
    · obtain ⟨_, u, q1, q2, _⟩ := key k j e y hk hj
      rw [q1]
      exact ⟨rfl, q2⟩
    · obtain ⟨_, u, q1, _, q3, _⟩ := key k j e y hk hj
      rw [q1]
      exact q3

/-- fields from one on -/
def OpensF (enc : TypeId × Value → H) (P : Program) (w : World) (base : Nat) (spare : Nat → Bool) (held : Bool) (fs : List Field) (off tot : Nat) {α : Type} (en : α → List AV) (R : α → Prop) : Prop :=
  ∀ (fuel : Nat) (cs : List Value) (xs : List (DataW H × List MemPlace)), cs.length = tot → xs.length = fs.length → (∀ (i : Nat) (f : Field), fs[i]? = some f → DataW.trod enc P w base spare held fuel f.type ((cs.drop f.offset).take (P.cellsOf f.type)) = xs[i]?) →
    (∀ (i : Nat) (f : Field) (x : DataW H × List MemPlace), fs[i]? = some f → xs[i]? = some x → Sized P f.type x.1) → ∃ a, R a ∧ CellsRv w (en a) (cs.drop off)
theorem cells_append {a b : List AV} {xs ys : List Value} (h1 : CellsRv w a xs) (h2 : CellsRv w b ys) : CellsRv w (a ++ b) (xs ++ ys) := by
  refine ⟨by rw [List.length_append, List.length_append, h1.1, h2.1], fun j y u hy hu => ?_, fun y hy => ?_⟩
  · rcases Nat.lt_or_ge j a.length with hlt | hge
    · rw [List.getElem?_append_left hlt] at hy
      rw [List.getElem?_append_left (by rw [← h1.1]; exact hlt)] at hu
      exact h1.2.1 j y u hy hu
    · rw [List.getElem?_append_right hge] at hy
      rw [List.getElem?_append_right (by rw [← h1.1]; exact hge)] at hu
      rw [h1.1] at hy
      exact h2.2.1 _ y u hy hu
  · rcases List.mem_append.1 hy with h | h
    · exact h1.2.2 y h
    · exact h2.2.2 y h
theorem opensF_last {f : Field} {off tot : Nat} {α : Type} {en : α → List AV} {R : α → Prop} (ho : f.offset = off) (htot : off + P.cellsOf f.type = tot) (h : Opens enc P w base spare held f.type en R) : OpensF enc P w base spare held [f] off tot en R := by
  intro fuel cs xs hcl hx ht hs
  obtain ⟨x, rfl⟩ := List.length_eq_one_iff.1 hx
  have h1 := ht 0 f rfl
  obtain ⟨a, ha, hc⟩ := h fuel _ x h1 (hs 0 f x rfl rfl)
  refine ⟨a, ha, ?_⟩
  rw [ho, List.take_of_length_le (by simp; omega)] at hc
  exact hc
theorem opensF_cons {f : Field} {fs : List Field} {off off' tot : Nat} {α β : Type} {en : α → List AV} {R : α → Prop} {en' : β → List AV} {R' : β → Prop} (ho : f.offset = off) (hoff : off + P.cellsOf f.type = off') (h : Opens enc P w base spare held f.type en R) (h' : OpensF enc P w base spare held fs off' tot en' R') :
    OpensF enc P w base spare held (f :: fs) off tot (fun p : α × β => en p.1 ++ en' p.2) (fun p => R p.1 ∧ R' p.2) := by
  intro fuel cs xs hcl hx ht hs
  cases xs with
  | nil => simp at hx
  | cons x xs =>
    obtain ⟨a, ha, hc⟩ := h fuel _ x (ht 0 f rfl) (hs 0 f x rfl rfl)
    obtain ⟨b, hb, hc'⟩ := h' fuel cs xs hcl (by simpa using hx) (fun i g hg => by simpa using ht (i + 1) g (by simpa using hg)) (fun i g y hg hy => hs (i + 1) g y (by simpa using hg) (by simpa using hy))
    refine ⟨(a, b), ⟨ha, hb⟩, ?_⟩
    rw [ho] at hc
    have : cs.drop off = (cs.drop off).take (P.cellsOf f.type) ++ cs.drop off' := by
      rw [← hoff, ← List.drop_drop, List.take_append_drop]
    rw [this]
    exact cells_append hc hc'
theorem opens_struct {t : TypeId} {fs : Array Field} {α : Type} {en : α → List AV} {R : α → Prop} (ht : P.underlying t = some (.struct fs)) (h : OpensF enc P w base spare held fs.toList 0 (P.cellsOf t) en R) : Opens enc P w base spare held t en R := by
  intro fuel cs x hx hs
  obtain ⟨xs, n, _, rfl, hcl, hxl, hf⟩ := DataW.trod_struct ht hx
  obtain ⟨a, ha, hc⟩ := h n cs xs hcl (by simpa using hxl) (fun i f hi => hf i f (by simpa using hi)) (fun i f y hi hy => sized_field hs ht (j := i) (by simpa using hi) (by simp [List.getElem?_map, hy]))
  exact ⟨a, ha, by simpa using hc⟩

/-- a struct that came in -/
theorem agg_rv {es : List AV} {us : Array Value} (h : CellsRv w es us.toList) : RV w nov mZ (.agg es) (.agg us) :=
  .agg (by rw [h.1]; simp) (fun j y u hy hu => (h.2.1 j y u hy (by simpa using hu)).1)
theorem one_rv {y : AV} {u : Value} (h : CellsRv w [y] [u]) : RV w nov mZ y u := (h.2.1 0 y u rfl rfl).1
end
end Go.Proofs.YticdfbhbbapbdaaDoor.Am
/- From a walk to a law's row: the arguments read behind the call as before, the result is true. -/
namespace Go.Proofs.YticdfbhbbapbdaaDoor
open Go.RowKit Go.WideShapes Go.ChangeShapes Go.ChangeAt
section
variable {H : Type} {enc : TypeId × Value → H} {P : Program}
theorem post_of_below {f : Func} {s : ChangeSpec} {apart fresh handsOn again : Bool} {W W' : World} {args : Array Value} {v : Value} {ds gs : List (DataW H)} {before pa pv : List MemPlace}
    (hW : DataW.Whole enc P f.params.toList s.vars apart W args.toList ds gs before)
    (hres : ∀ (b : Nat) (sp : Nat → Bool) (hd : Bool), DataW.TrodAll enc P W' b sp hd f.resultTypes.toList (v.resultList f.resultTypes.size) (s.fn H (ds ++ gs)).results [])
    (hargs : ∀ sp : Nat → Bool, (∀ p ∈ before, sp p.block = true) → DataW.TrodAll enc P W' 0 sp true f.params.toList args.toList (s.fn H (ds ++ gs)).args pa)
    (hvars : ∀ sp : Nat → Bool, (∀ p ∈ before, sp p.block = true) → DataW.TrodVars enc P W' sp s.vars (s.fn H (ds ++ gs)).vars pv)
    (hps : before = pa ++ pv) (hb : Below W.heap.size W W')
    (hok : ∀ (j : Nat) (t : TypeId) (r : Value), f.resultTypes[j]? = some t → (v.resultList f.resultTypes.size)[j]? = some r → Value.okWide P W' .any 0 t r) :
    s.post enc P f apart fresh handsOn again W args v W' := by
  have hlt : ∀ p ∈ before, p.block < W.heap.size := fun p hp => hW.lt p hp
  have hold : ∀ p ∈ before, (fun b => decide (b < W.heap.size)) p.block = true := fun p hp => by simpa using hlt p hp
  refine ⟨ds, gs, before, [], pa, pv, hW, hres _ _ _, hargs _ hold, hvars _ hold, World.keptBut_mono (fun p hp => ⟨hp, ?_⟩) (hb.frame (· ∈ before)), fun _ => ?_⟩
  · rw [hps, List.mem_append] at hp
    exact Or.inr hp
  · obtain ⟨_, _, _, _, _, hz, hn⟩ := hW
    refine ⟨hok, _, _, ([] ++ pa) ++ pv, ⟨[] ++ pa, pv, trodAll_append (hargs _ (fun _ _ => rfl)) (hres _ _ _), hvars _ (fun _ _ => rfl), rfl, ?_, ?_⟩, ?_⟩
    · intro b off hp
      have hin : MemPlace.cell b off ∈ before := by rw [hps]; simpa using hp
      rw [hb.frozen (hlt _ hin)]
      exact hz b off hin
    · intro ha
      have := hn ha
      rw [hps] at this
      simpa using this
    · intro p hp _
      rw [hps]
      simpa using hp

theorem trodAll_keep (hl : laidOutB P = true) {W W' : World} (hb : Below W.heap.size W W') (sp : Nat → Bool) (ts : List TypeId) : ∀ (vs : List Value) (ds : List (DataW H)) (ps : List MemPlace), (∀ t ∈ ts, P.readableRec t = true ∧ t < P.types.size) →
    DataW.TrodAll enc P W 0 (fun _ => true) true ts vs ds ps → (∀ x ∈ ps, x.block < W.heap.size) → (∀ x ∈ ps, sp x.block = true) → DataW.TrodAll enc P W' 0 sp true ts vs ds ps := by
  induction ts with
  | nil =>
    intro vs ds ps _ h _ _
    obtain ⟨rfl, rfl, rfl⟩ := trodAll_nil h
    exact trodAll_mk0
  | cons t ts ih =>
    intro vs ds ps hts h hlt hsp
    obtain ⟨v0, vs0, d0, ds0, p0, q0, rfl, rfl, rfl, h0, r0⟩ := trodAll_cons h
    obtain ⟨hr, hrow⟩ := hts t (by simp)
    exact trodAll_cons_mk (WideElems.Trod_stays hl hr hrow h0 (fun x hx => hb.same (hlt x (by simp [hx]))) (fun x hx => hsp x (by simp [hx])))
      (ih _ _ _ (fun t ht => hts t (by simp [ht])) r0 (fun x hx => hlt x (by simp [hx])) (fun x hx => hsp x (by simp [hx])))

/-- A LAW: it returned true, nothing that was there has turned. -/
theorem law_post (hl : laidOutB P = true) {f : Func} {s : ChangeSpec} {T : TypeId} {W W' : World} {args : Array Value} {ds : List (DataW H)} {before : List MemPlace}
    (hvars : s.vars = []) (hrt : f.resultTypes = #[T]) (hT : P.underlying T = some .bool) (hts : f.params.toList.all (fun t => P.readableRec t && decide (t < P.types.size)) = true)
    (hW : DataW.Whole enc P f.params.toList s.vars false W args.toList ds [] before) (hA : DataW.TrodAll enc P W 0 (fun _ => true) true f.params.toList args.toList ds before)
    (e1 : (s.fn H (ds ++ [])).results = [.lit (.bool true)]) (e2 : (s.fn H (ds ++ [])).args = ds) (e3 : (s.fn H (ds ++ [])).vars = []) (hb : Below W.heap.size W W') :
    s.post enc P f false true false false W args (.bool true) W' := by
  have hlt : ∀ x ∈ before, x.block < W.heap.size := fun x hx => hW.lt x hx
  refine post_of_below (pa := before) (pv := []) hW ?_ ?_ ?_ (by simp) hb ?_
  · intro b sp hd
    rw [e1, hrt]
    exact trodAll_cons_mk (shut_bool hT true) trodAll_mk0
  · intro sp hsp
    rw [e2]
    exact trodAll_keep hl hb sp _ _ _ _ (fun t ht => by simpa using List.all_eq_true.1 hts t ht) hA hlt hsp
  · intro sp hsp
    rw [e3, hvars]
    rfl
  · exact ok_one hrt rfl (okWide_bool_mk hT true)
end
end Go.Proofs.YticdfbhbbapbdaaDoor
/- stratagemlaw30.CertificateParses returns true for every input. No condition beyond the card's own. -/
namespace Go.Proofs.YticdfbhbbapbdaaDoor.rowParses
open Go.ChangeShapes Go.WideShapes Go.ChangeAt Go.RowKit Am

theorem table {W : World} (h : laidMetH Tryd.prog Rows.certificateParsesRow.laid W) : TabOk W := by
  obtain ⟨ps, ⟨_, _, _, _, _, _, _, _, _, _, ⟨_, _, _, _, _, _, _, _, _, _, hr, _⟩, _⟩, _⟩ := h
  obtain ⟨g', t', cs, fuel, p, q, hg', ht', hvar, hd, _, _⟩ := hr
  obtain rfl := Option.some.inj (gPow.symm.trans hg')
  obtain rfl := Option.some.inj ((show (Tryd.prog.globals[0]?).map (·.type) = some 117 by kernel_rfl).symm.trans ht')
  unfold TabOk Lib.TabIs
  rw [hvar, ← Lib.cells_of_tab (zs := Lib.pow10Tab) Tryd.underlying117 Tryd.underlying104 (by kernel_rfl) (by kernel_rfl) hd]
set_option maxRecDepth 100000 in
theorem contract (H : Type) (enc : TypeId × Value → H) (W : World) (base : Nat) (args : Array Value) (ds gs : List (DataW H)) (before : List MemPlace)
    (hval : ∀ (j : Nat) t v, Tryd.f9.params[j]? = some t → args[j]? = some v → Value.okWide Tryd.prog W .any base t v)
    (hW : DataW.Whole enc Tryd.prog Tryd.f9.params.toList Rows.certificateParsesSpec.vars false W args.toList ds gs before) (hL : laidMetH Tryd.prog Rows.certificateParsesRow.laid W)
    (hsz : (DataW.weightsEach Tryd.prog (Tryd.f9.params.toList ++ (OpenSpec.ofChange Rows.certificateParsesSpec).bare.plain.varTypes Tryd.prog) (ds ++ gs)).all (· ≤ reachBytes) = true) (hsh : W.ShapedOpen Tryd.prog) :
    Calls Tryd.prog 9 args W fun e W' => ∃ v, e = .returned v ∧ Rows.certificateParsesSpec.post enc Tryd.prog Tryd.f9 false true false false W args v W' := by
  have hW' := hW
  obtain ⟨p, q, hA0, hV, rfl, hfz, hnd⟩ := hW
  have hA : DataW.TrodAll enc Tryd.prog W 0 (fun _ => true) true Tryd.f9.params.toList args.toList ds p := hA0
  rw [Tryd.params9] at hA hval
  obtain ⟨v0, vs0, d0, ds0, p0, q0, hargs, rfl, rfl, h0, r0⟩ := trodAll_cons hA
  obtain ⟨rfl, rfl, rfl⟩ := trodAll_nil r0
  obtain rfl : args = #[v0] := Array.ext' hargs
  obtain ⟨rfl, rfl⟩ := trodVars_none hV
  simp only [List.append_nil] at hW' hA0 hsz
  obtain ⟨f0, hf0⟩ := h0
  obtain ⟨s, rfl⟩ := okWide_string Tryd.underlying9 (hval 0 9 v0 rfl rfl)
  refine (law_of (A_stratagemlaw30_CertificateParses s (parses_true s)) ⟨table hL, Tryd.laysM146.s1_3 W hsh⟩ rfl (fun j x v hx hv => ?_)).mono fun e W' ⟨he, hb⟩ => ?_
  · match j, hx, hv with
    | 0, hx, hv => simp at hx hv; subst hx hv; exact .c _
    | j + 1, hx, hv => simp at hx
  · subst he
    exact ⟨_, rfl, law_post laidOut rfl (by kernel_rfl) Tryd.underlying4 (by kernel_rfl) hW' hA0 rfl rfl rfl hb⟩
theorem laid_met (os : Os) : laidMet Tryd.prog Rows.certificateParsesRow.laid ((laidWorld5 os).forCall (fun _ _ => 0) ⟨#[], #[.string ⟨#[]⟩], []⟩).memory :=
  laidMet_of_run' 8 (by kernel_rfl) (by kernel_rfl)
theorem reads (os : Os) {H : Type} (enc : TypeId × Value → H) : ∃ places, DataW.whole enc Tryd.prog ((laidWorld5 os).forCall (fun _ _ => 0) ⟨#[], #[.string ⟨#[]⟩], []⟩).memory Tryd.f9.params.toList Rows.certificateParsesSpec.vars false (#[.string ⟨#[]⟩] : Array Value).toList 8 = some ([.lit (.string [])], [], places) :=
  ⟨[], by kernel_rfl⟩

set_option maxRecDepth 100000 in
theorem lifted (os : Os) (started : os.Started) (H : Type) (enc : TypeId × Value → H) (F : Stop.Interp) :
    ReturnsInHanded {} Tryd.checked os 9 .any ((OpenSpec.ofChange Rows.certificateParsesSpec).preRow enc Tryd.prog Tryd.f9 Rows.certificateParsesRow.domain false Rows.certificateParsesRow.laid) (((OpenSpec.ofChange Rows.certificateParsesSpec).at F).post enc Tryd.prog Tryd.f9 false true false false) := by
  obtain ⟨places, hx⟩ := reads os enc
  refine returnsInHanded_of_row (C := Tryd.checked) (s := OpenSpec.ofChange Rows.certificateParsesSpec) own started (by kernel_rfl) Tryd.func9
    (witness_row_at (enc := enc) (C := Tryd.checked) false (laidWorld5 os) #[.string ⟨#[]⟩] rfl (by kernel_rfl) (by kernel_rfl) (by kernel_rfl)
      (OpenSpec.preRow_of_cond 8 hx (by kernel_rfl) (fun k hk => by cases hk) (by kernel_rfl) (laid_met os))) ?_
  intro W base args ds gs before hval hW _ _ hsz hL hsh _
  exact contract H enc W base args ds gs before hval hW hL hsz hsh

theorem said : Rows.CertificateParsesSaid :=
  OpenClaim.holds_of_cond 9 Tryd.f9 rfl rfl rfl rfl rfl rfl rfl ⟨rfl, rfl, rfl, rfl, rfl⟩ rfl rfl rfl rfl rfl (by kernel_rfl) Tryd.func9 (by kernel_rfl)
    (of_decide_eq_true (by kernel_rfl)) (by unfold Func.isWrapper; first | (rw [if_pos (by decide +kernel)]; kernel_rfl) | (rw [if_neg (by decide +kernel)]; exact ⟨rfl, rfl⟩))
    (fun os started H enc _ F => by rw [OpenClaim.pre_eq_preRow]; exact lifted os started H enc F)

theorem plain (f : FuncId) (fn : Func) (hf : Tryd.pinned.checked.prog.funcNamed Rows.certificateParsesRow.func = some f) (hfn : Tryd.pinned.checked.prog.funcs[f]? = some fn) :
    true = Tryd.pinned.checked.prog.looks [] ∧ ∀ (j : Nat) t, fn.params[j]? = some t → Tryd.pinned.checked.prog.wantsStandIn t = false := by
  obtain rfl : f = 9 := Option.some.inj ((show Tryd.prog.funcNamed Rows.certificateParsesRow.func = some 9 by kernel_rfl).symm.trans hf) |>.symm
  obtain rfl : fn = Tryd.f9 := (Option.some.inj (Tryd.func9.symm.trans hfn)).symm
  refine ⟨by kernel_rfl, fun j t ht => ?_⟩
  have hall : Tryd.f9.params.toList.all (fun t => !Tryd.prog.wantsStandIn t) = true := by kernel_rfl
  have := List.all_eq_true.1 hall t (by simpa using Array.mem_of_getElem? ht)
  have h2 : Tryd.prog.wantsStandIn t = false := by simpa using this
  exact h2

/-- THE CARD: stratagemlaw30's statement holds. -/
theorem card : Rows.CertificateParsesCardSaid :=
  Claim7.holds_tied_plain_at .later [] _ _ _ _ said (fun _ h => by cases h) (by kernel_rfl) (fun _ h => by cases h) certificateParses_row_tie rfl ⟨rfl, rfl⟩ (by kernel_rfl) rfl plain (by kernel_rfl)
end Go.Proofs.YticdfbhbbapbdaaDoor.rowParses
