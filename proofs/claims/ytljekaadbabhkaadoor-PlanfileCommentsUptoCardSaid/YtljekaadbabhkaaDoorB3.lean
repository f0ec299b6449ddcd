/- Texts of the proof, part 3 of 4. -/
import Derived.Test.YtljekaadbabhkaaDoorB2
import Derived.Shelf.Strings.SlTrimAscii
import Derived.Test.YtljekaadbabhkaaDoorB1
import Derived.Lib.Builder
import Derived.Lib.AppendStr
import Derived.Lib.UnsafeStr
import Derived.Laws.Externs
import Derived.Lib.SmallJoins
import Derived.Shelf.Strings.Builder1
import Derived.Laws.BytesArg
import Derived.Lib.SplitLaws
import Derived.Lib.IndexMore
import Derived.Lib.TrimUEq
import Derived.Lib.MapLaws
import Derived.Lib.SpaceUEq
import Derived.Lib.FieldsP
import Derived.Lib.ItoaLen
/- Contracts of strings.Split, Cut, Trim, FieldsFunc, Clone, slices.Clone, of planfile.lower and the document's Lower, as models. -/
namespace Go.Proofs.YtljekaadbabhkaaDoor.Am
open Go.RowKit

/-- strings.Split by a separator that is not empty -/
def M_strings_Split (s sep : ByteArray) : Option (List ByteArray) := grd (s.size < 4294967281) (grd (1 ≤ sep.size) (some (Lib.splitB sep 0 (Lib.countB s sep) s)))
theorem splitB_all (sep : ByteArray) (h1 : 1 ≤ sep.size) : ∀ (n : Nat) (s : ByteArray), s.size ≤ n → (Lib.splitB sep 0 (Lib.countB s sep) s).length = Lib.countB s sep + 1
  | 0, s, hn => by
    rcases Lib.indexB_cases s sep with hix | ⟨i, _, hroom⟩
    · rw [Lib.countB_miss s sep hix]; rfl
    · omega
  | n + 1, s, hn => by
    rcases Lib.indexB_cases s sep with hix | ⟨i, hi, hroom⟩
    · rw [Lib.countB_miss s sep hix]; rfl
    · rw [Lib.countB_hit s sep i h1 hi, Nat.add_comm 1, Lib.splitB_hit _ _ _ _ _ hi]
      have hsz : (s.extract (i + sep.size) s.size).size ≤ n := by rw [ByteArray.size_extract]; omega
      simp [splitB_all sep h1 n _ hsz]
theorem A_strings_Split (s sep : ByteArray) {r : List ByteArray} (h : M_strings_Split s sep = some r) : ACall cx 23 [.c (.string s), .c (.string sep)] (.sl 1 (r.map cS)) := by
  obtain ⟨h1, h⟩ := grd_ok h
  obtain ⟨h2, h⟩ := grd_ok h
  obtain rfl := Option.some.inj h
  refine acall_gl Tryd.func23 rfl (by decide) (fun w O cargs ht hO hs hr => ?_)
  obtain ⟨a, b, rfl⟩ := args2 hs
  obtain rfl := rv_c (hr 0 _ a rfl rfl)
  obtain rfl := rv_c (hr 1 _ b rfl rfl)
  obtain ⟨m, hm⟩ := ht.2
  refine (Tryd.strings_Split s sep m w h1 hm h2).mono ?_
  rintro e w' ⟨rfl, rfl⟩
  obtain ⟨l, hl⟩ : ∃ l, Lib.splitB sep 0 (Lib.countB s sep) s = l := ⟨_, rfl⟩
  have hlen : l.length = Lib.countB s sep + 1 := by rw [← hl]; exact splitB_all sep h2 s.size s (Nat.le_refl _)
  have hcs : Lib.countB s sep + 1 ≤ 140737488355328 := by have := Lib.countB_le sep h2 s.size s (Nat.le_refl _); omega
  rw [hl]
  refine ⟨_, rfl, ?_, (Below.refl _ _).trans ⟨rfl, rfl, rfl, by show w.heap.size ≤ (w.heap.push _).size; simp, fun b hb => ?_⟩⟩
  · have := RV.sl (w := w.alloc (.cells (l.map Value.string).toArray 9)) (vs := nov) (m := mO O) (sz := 1) (l := l.map cS) (A := some ⟨w.heap.size, 0, none⟩) (cap := Lib.countB s sep + 1) (b := w.heap.size) (off := 0) (f := fun k _ => .string (l.getD k ⟨#[]⟩))
      (fun _ => ⟨rfl, fun ho => by have := hO _ (owned_nov.1 ho); omega, by show w.heap.size < (w.heap.push _).size; simp⟩) (by simp [hlen]) (by simp [hlen]; omega)
      (fun k e he => by obtain ⟨x, _, rfl⟩ := get_map he; rfl)
      (fun k j e x he hx => by
        obtain ⟨y, hy, rfl⟩ := get_map he
        cases j with
        | zero =>
          have hb := heap_alloc_new w (.cells (l.map Value.string).toArray 9)
          refine ⟨?_, rfl⟩
          simp only [World.cell?, hb]
          simp [hy, List.getD_eq_getElem?_getD]
        | succ j => simp [cS] at hx)
      (fun k j e x he hx => by
        obtain ⟨y, hy, rfl⟩ := get_map he
        cases j with
        | zero =>
          simp [cS] at hx
          subst hx
          simp only [List.getD_eq_getElem?_getD, hy, Option.getD_some]
          exact .c _
        | succ j => simp [cS] at hx) (frl_cS l)
    simp only [List.length_map, hlen] at this
    exact this
  · show (w.heap.push _)[b]? = w.heap[b]?
    rw [Array.getElem?_push, if_neg (by omega)]
def cutB (s sep : ByteArray) : ByteArray × ByteArray × Bool := (⟨(Lib.cut s.data.toList sep.data.toList).1.toArray⟩, ⟨(Lib.cut s.data.toList sep.data.toList).2.1.toArray⟩, (Lib.cut s.data.toList sep.data.toList).2.2)
def M_strings_Cut (s sep : ByteArray) : Option (ByteArray × ByteArray × Bool) := grd (s.size < 4294967281) (some (cutB s sep))
theorem A_strings_Cut (s sep : ByteArray) {r1 r2 : ByteArray} {r3 : Bool} (h : M_strings_Cut s sep = some (r1, r2, r3)) : ACall cx 74 [.c (.string s), .c (.string sep)] (.tup [.c (.string r1), .c (.string r2), .c (.bool r3)]) := by
  obtain ⟨h1, h⟩ := grd_ok h
  obtain ⟨rfl, rfl, rfl⟩ := inj3 h
  refine acall_gl Tryd.func74 rfl (by decide) (fun w O cargs ht hO hs hr => ?_)
  obtain ⟨a, b, rfl⟩ := args2 hs
  obtain rfl := rv_c (hr 0 _ a rfl rfl)
  obtain rfl := rv_c (hr 1 _ b rfl rfl)
  obtain ⟨m, hm⟩ := ht.2
  refine (Tryd.strings_Cut s sep m w h1 hm).mono ?_
  rintro e w' ⟨rfl, n, rfl⟩
  refine ⟨_, rfl, .tup rfl (fun j x u hx hu => ?_), below_drewN (Below.refl _ _) n⟩
  match j, hx, hu with
  | 0, hx, hu => simp at hx hu; subst hx hu; exact .c _
  | 1, hx, hu => simp at hx hu; subst hx hu; exact .c _
  | 2, hx, hu => simp at hx hu; subst hx hu; exact .c _
  | j + 3, hx, hu => simp at hx
theorem cargs2 {α : Type} {c : Array α} (h : c.size = 2) : ∃ a b, c = #[a, b] := by
  obtain ⟨l⟩ := c
  match l, h with
  | [a, b], _ => exact ⟨a, b, rfl⟩
def asciiB (t : ByteArray) : Bool := t.data.toList.all (fun b => decide (b.toNat < 128))
/-- strings.Trim by bytes that are no part of greater signs -/
def M_strings_Trim (s t : ByteArray) : Option ByteArray := grd (s.size ≤ 9223372036854775807) (grd (t.size < 4294967281) (grd (asciiB t = true) (some ⟨(Lib.trimS s.data.toList t.data.toList).toArray⟩)))
theorem A_strings_Trim (s t : ByteArray) {r : ByteArray} (h : M_strings_Trim s t = some r) : ACall cx 24 [.c (.string s), .c (.string t)] (.c (.string r)) := by
  obtain ⟨h1, h⟩ := grd_ok h
  obtain ⟨h2, h⟩ := grd_ok h
  obtain ⟨h3, h⟩ := grd_ok h
  obtain rfl := Option.some.inj h
  refine acall_gl Tryd.func24 rfl (by decide) (fun w O cargs ht hO hs hr => ?_)
  obtain ⟨a, b, rfl⟩ := args2 hs
  obtain rfl := rv_c (hr 0 _ a rfl rfl)
  obtain rfl := rv_c (hr 1 _ b rfl rfl)
  refine (Any.strings_Trim_laid Tryd.lays160 (by kernel_rfl) s t w h1 h2 (ascii_of_all h3)).mono ?_
  rintro e w' ⟨rfl, hb⟩
  exact ⟨_, rfl, .c _, hb⟩
def M_stringslite_Clone (s : ByteArray) : Option ByteArray := grd (s.size ≤ 281474976710656) (some s)
theorem A_stringslite_Clone (s : ByteArray) {r : ByteArray} (h : M_stringslite_Clone s = some r) : ACall cx 79 [.c (.string s)] (.c (.string r)) := by
  obtain ⟨h1, h⟩ := grd_ok h
  obtain rfl := Option.some.inj h
  refine acall_gl Tryd.func79 rfl (by decide) (fun w O cargs ht hO hs hr => ?_)
  obtain ⟨a, rfl⟩ := args1 hs
  obtain rfl := rv_c (hr 0 _ a rfl rfl)
  refine (Tryd.stringslite_Clone s w h1).mono ?_
  rintro e w' ⟨rfl, hb⟩
  exact ⟨_, rfl, .c _, hb⟩
def M_lower (s : ByteArray) : Option ByteArray := grd (s.size ≤ 140737488355328) (some (lowS s))
theorem A_lower (s : ByteArray) {r : ByteArray} (h : M_lower s = some r) : ACall cx 53 [.c (.string s)] (.c (.string r)) := by
  obtain ⟨h1, h⟩ := grd_ok h
  obtain rfl := Option.some.inj h
  refine acall_gl Tryd.func53 rfl (by decide) (fun w O cargs ht hO hs hr => ?_)
  obtain ⟨a, rfl⟩ := args1 hs
  obtain rfl := rv_c (hr 0 _ a rfl rfl)
  refine (lower_calls s w h1).mono ?_
  rintro e w' ⟨rfl, hb⟩
  exact ⟨_, rfl, .c _, hb⟩
/-- the bytes between words -/
def spaceR (x : Nat) : Bool := x == 32 || x == 9
theorem space_pays (w : World) : PredAtRunes Tryd.prog 76 #[] spaceR w := fun W x _ _ => by
  unfold FnGives
  by_cases h1 : x = 32
  · subst h1
    go_enter Tryd.func76, Tryd.ntmps76
    go_wp2
    go_ret
    exact ⟨rfl, 0, rfl⟩
  · by_cases h2 : x = 9
    · subst h2
      go_enter Tryd.func76, Tryd.ntmps76
      go_wp2
      go_ret
      exact ⟨rfl, 0, rfl⟩
    · have h3 : spaceR x = false := by simp [spaceR, h1, h2]
      rw [h3]
      go_enter Tryd.func76, Tryd.ntmps76
      go_wp2
      go_ret
      refine ⟨?_, 0, rfl⟩
      show Ending.returned (.bool ((x : Int) == 32 || (x : Int) == 9)) = _
      have q1 : ((x : Int) == 32) = false := by rw [beq_eq_false_iff_ne]; omega
      have q2 : ((x : Int) == 9) = false := by rw [beq_eq_false_iff_ne]; omega
      rw [q1, q2]
      rfl
theorem cells_str {w : World} {vs : Shp} {m : MM} {l : List ByteArray} (k : Nat) (e : List AV) (he : (l.map cS)[k]? = some e) : e.length = 1 ∧ ∀ (j : Nat) (y : AV), e[j]? = some y → Fr y ∧ ∃ u, (l.map Value.string)[k * 1 + j]? = some u ∧ u.oneCell' = true ∧ RV w vs m y u := by
  obtain ⟨x, hx, rfl⟩ := get_map he
  refine ⟨rfl, fun j y hy => ?_⟩
  match j, hy with
  | 0, hy => simp [cS] at hy; subst hy; exact ⟨.c _, _, by simp [hx], rfl, .c _⟩
  | j + 1, hy => simp [cS] at hy
def M_FieldsFunc (s : ByteArray) : Option (List ByteArray) := grd (s.size ≤ 4294967296) (some (Lib.goFieldsP spaceR s))
theorem A_FieldsFunc (s : ByteArray) {r : List ByteArray} (h : M_FieldsFunc s = some r) : ACallG cx 75 [.c (.string s), .clo (.func 76) [] []] [] [] (.own 0 0 0 r.length) [(0, ⟨9, 1, false, r.map cS⟩)] := by
  obtain ⟨h0, h⟩ := grd_ok h
  have h := Option.some.inj h
  subst h
  refine ⟨enter_g Tryd.func75 rfl (by decide), fun w m cargs hg hM hsz hargs => ?_⟩
  obtain ⟨v, f, rfl⟩ := cargs2 hsz
  obtain rfl := rv_c (hargs 0 _ v rfl rfl)
  obtain ⟨us, us', rfl, l1, _, l2, _⟩ := rv_clo (hargs 1 _ f rfl rfl)
  obtain rfl : us = #[] := Array.eq_empty_of_size_eq_zero l1.symm
  obtain rfl : us' = #[] := Array.eq_empty_of_size_eq_zero l2.symm
  refine (Tryd.strings_FieldsFunc_runes 76 #[] (enter_of Tryd.func76 rfl (by decide)) spaceR s w h0 (space_pays w)).mono ?_
  rintro e w' ⟨A, rfl, hA, ho, hb⟩
  obtain ⟨l, hl⟩ : ∃ l, Lib.goFieldsP spaceR s = l := ⟨_, rfl⟩
  rw [hl] at ho ⊢
  refine ⟨_, ⟨fun k => if k = 0 then Value.ownBlock (.slice (some ⟨A, 0, none⟩) l.length l.length) else none, m.O⟩, rfl, ?_⟩
  exact gr_row (i0 := 0) (v := .slice none 0 0) (row := none) hM hg (.inl rfl) (own_mono ho (Nat.zero_le _)) ⟨hb.os, hb.tape, hb.output, hb.size, fun b hb' _ => hb.block b hb'⟩ (.inl rfl) (.inr (fun b hb => by simp [Value.ownBlock] at hb; omega)) (List.length_map _) (fun k e he => cells_str k e he)
def M_cloneS (l : List ByteArray) : Option (List ByteArray) := grd (l.length * 16 ≤ 140737488355328) (some l)
theorem A_cloneS (l : List ByteArray) {r : List ByteArray} (h : M_cloneS l = some r) : ACall cx 29 [.sl 1 (l.map cS)] (.sl 1 (r.map cS)) := by
  obtain ⟨h0, h⟩ := grd_ok h
  obtain rfl := Option.some.inj h
  refine acall_gl Tryd.func29 rfl (by decide) (fun w O cargs ht hO hs hr => ?_)
  obtain ⟨v, rfl⟩ := args1 hs
  obtain ⟨A, cap, b, off, f, rfl, hA, hcap, _, _, hc, hv, _⟩ := rv_sl (hr 0 _ v rfl rfl)
  have done : ∀ (w' : World) (v' : Value), w'.ownsRow w.heap.size 9 1 v' l.length (l.map Value.string) → Below w.heap.size w w' → RV w' nov (mO O) (.sl 1 (l.map cS)) v' := by
    intro w' v' ho hb
    rcases ho.2 with ⟨rfl, h1⟩ | ⟨g, cp, cur, rfl, hg, hh, hn, _, hcs, htake⟩
    · have hl : l = [] := List.length_eq_zero_iff.1 h1
      subst hl
      exact RV.sl (f := fun _ _ => .nilIface) (b := 0) (off := 0) (fun h => absurd rfl h) (by simp) (by simp) (fun k e he => by simp at he) (fun k j e x he => by simp at he) (fun k j e x he => by simp at he) (fun e he => by simp at he)
    · have hlt : g < w'.heap.size := by
        rcases Nat.lt_or_ge g w'.heap.size with h | h
        · exact h
        · rw [Array.getElem?_eq_none h] at hh; cases hh
      have hcell : ∀ (k : Nat) (x : ByteArray), l[k]? = some x → w'.cell? ⟨g, 0 + (k * 1 + 0), none⟩ = some (.string x) := by
        intro k x hx
        have hk : k < l.length := (List.getElem?_eq_some_iff.1 hx).1
        have := ho.cellAt k (by simpa using hk)
        rw [Nat.zero_add, Nat.mul_one, Nat.add_zero, this]
        simp [hx]
      have := RV.sl (w := w') (vs := nov) (m := mO O) (sz := 1) (l := l.map cS) (A := some ⟨g, 0, none⟩) (cap := cp) (b := g) (off := 0) (f := fun k _ => .string (l.getD k ⟨#[]⟩))
        (fun _ => ⟨rfl, fun ho' => by have := hO _ (owned_nov.1 ho'); omega, hlt⟩) (by simp; omega) (by simp; omega)
        (fun k e he => by obtain ⟨x, _, rfl⟩ := get_map he; rfl)
        (fun k j e x he hx => by
          obtain ⟨y, hy, rfl⟩ := get_map he
          cases j with
          | zero =>
            refine ⟨?_, rfl⟩
            rw [hcell k y hy]
            simp [hy, List.getD_eq_getElem?_getD]
          | succ j => simp [cS] at hx)
        (fun k j e x he hx => by
          obtain ⟨y, hy, rfl⟩ := get_map he
          cases j with
          | zero =>
            simp [cS] at hx
            subst hx
            simp only [List.getD_eq_getElem?_getD, hy, Option.getD_some]
            exact .c _
          | succ j => simp [cS] at hx) (frl_cS l)
      simp only [List.length_map] at this
      exact this
  have hlen : (l.map cS).length = l.length := List.length_map _
  by_cases hl : l = []
  · subst hl
    cases A with
    | none =>
      refine (Tryd.slices_Clone_string_nil _ cap w).mono ?_
      rintro e w' ⟨rfl, rfl⟩
      exact ⟨_, rfl, done _ _ ⟨rfl, .inl ⟨rfl, rfl⟩⟩ (Below.refl _ _), Below.refl _ _⟩
    | some a =>
      refine (Tryd.slices_Clone_string_zero a cap w).mono ?_
      rintro e w' ⟨v', rfl, ho, _, hb⟩
      exact ⟨v', rfl, done _ _ ho hb, hb⟩
  · obtain ⟨rfl, _, _⟩ := hA (by simpa using hl)
    rw [hlen]
    refine (Tryd.slices_Clone_string b off l.length cap l w (Nat.le_refl _) h0 (fun j hj => ?_)).mono ?_
    · have hx := List.getElem?_eq_getElem hj
      have := (hc j 0 _ _ (map_at' hx) rfl).1
      rw [rv_c (hv j 0 _ _ (map_at' hx) rfl)] at this
      simpa [List.getD_eq_getElem?_getD, hx] using this
    · rintro e w' ⟨v', rfl, ho, _, hb⟩
      rw [List.take_of_length_le (Nat.le_refl _)] at ho
      exact ⟨v', rfl, done _ _ ho hb, hb⟩
end Go.Proofs.YtljekaadbabhkaaDoor.Am
/- Models printed by my decompiler, and the proofs that the code computes them. -/
namespace Go.Proofs.YtljekaadbabhkaaDoor.Am
open Go.RowKit
structure GStep where
  At : Int
  Name : ByteArray
  Args : List ByteArray
  deriving DecidableEq
def cGStep (x : GStep) : List AV := [.c (.int .i64 x.At), .c (.string x.Name), .sl 1 (x.Args.map cS)]
theorem fr_cGStep (x : GStep) : ∀ y ∈ cGStep x, Fr y := FrC_cons (.c _) (FrC_cons (.c _) (FrC_cons (.sl (frl_cS _)) (FrC_nil)))
theorem frl_cGStep (l : List GStep) : FrL (l.map cGStep) := FrL_map (fun x _ => fr_cGStep x)
instance {l : List GStep} : FrI (l.map cGStep) := ⟨frl_cGStep l⟩
theorem zb_0 {P : Prop} (h : P := by repeat (first | exact BWL.nil | exact bwll_nil | exact bw_c | exact BW.sl | exact BW.nil | exact bwll_same rfl FrI.h | refine BWL.cons ?_ ?_ | refine bwll_cons ?_ ?_ | (refine bw_own3 rfl rfl rfl FrI.h ?_ ?_ ?_) | exact BW.fr FrV.h | exact BW.fr (by assumption) | refine bw_agg ?_ | refine bw_clo ?_ | refine bw_ptr rfl rfl rfl ?_ | (refine bw_own rfl rfl rfl ?_ FrI.h ?_ ?_) | assumption | omega | rfl | (rw [List.length_map, ← List.length_append]; assumption) | (refine bwll_same ?_ FrI.h; (simp [cGStep, cS, c_u8, cF] <;> fail)) | (rw [List.map_set]; refine bwll_set (by first | rfl | omega | simp) ?_ ?_) | refine bwll_set (by first | rfl | omega | simp) ?_ ?_ | (rw [List.map_replicate]; refine bwll_rep ?_) | refine bwll_rep ?_ | (rw [List.map_append]; refine bwll_append ?_ ?_) | refine bwll_append ?_ ?_ | (simp [cGStep, cS, c_u8, cF, take_len_map] <;> fail) | (rw [List.drop_zero, List.take_of_length_le] <;> first | rfl | (simp [cGStep, cS, c_u8, cF] <;> fail)) | (simp; omega) | (simp only [List.length_map, List.drop_zero, List.length_cons, List.length_nil, Nat.zero_add, Nat.add_zero] at *; omega))) : P := h
theorem zg_0 {P : Prop} (h : P := by repeat (first | exact True.intro | exact gb_nil rfl rfl | refine gb_some ⟨rfl, rfl, rfl⟩ ?_ | refine And.intro ?_ ?_ | refine gw_ren rfl rfl rfl rfl rfl ?_ | refine gw_pren rfl rfl rfl rfl rfl | exact gw_thaw rfl rfl rfl | refine gw_tup ?_ | exact GWL.nil | exact gwll_nil | exact gw_c | exact GW.sl | exact GW.nil | exact gwll_same rfl FrI.h | refine GWL.cons ?_ ?_ | refine gwll_cons ?_ ?_ | (refine gw_own3 rfl rfl rfl FrI.h ?_ ?_ ?_) | exact GW.fr FrV.h | exact GW.fr (by assumption) | refine gw_agg ?_ | refine gw_clo ?_ | refine gw_ptr rfl rfl rfl ?_ | (refine gw_own rfl rfl rfl ?_ FrI.h ?_ ?_) | assumption | omega | rfl | (rw [List.length_map, ← List.length_append]; assumption) | (refine gwll_same ?_ FrI.h; (simp [cGStep, cS, c_u8, cF] <;> fail)) | (rw [List.map_set]; refine gwll_set (by first | rfl | omega | simp) ?_ ?_) | refine gwll_set (by first | rfl | omega | simp) ?_ ?_ | (rw [List.map_replicate]; refine gwll_rep ?_) | refine gwll_rep ?_ | (rw [List.map_append]; refine gwll_append ?_ ?_) | refine gwll_append ?_ ?_ | (simp [cGStep, cS, c_u8, cF, take_len_map] <;> fail) | (rw [List.drop_zero, List.take_of_length_le] <;> first | rfl | (simp [cGStep, cS, c_u8, cF] <;> fail)) | (simp; omega) | (simp only [List.length_map, List.drop_zero, List.length_cons, List.length_nil, Nat.zero_add, Nat.add_zero] at *; omega))) : P := h
theorem ci {p K : Prop} (k : K) (h : p := by first | rfl | exact ⟨rfl, rfl⟩ | exact BW.fr FrV.h | (refine BW.fr ?_; assumption) | (refine ⟨rfl, ?_⟩; (simp [cGStep, cS, c_u8, cF, take_len_map]; done)) | (refine RowK.same ?_ FrI.h; first | rfl | (simp [cGStep, cS, c_u8, cF, take_len_map]; done)) | (refine row_part1 ?_; (exact zb_0); done) | ((exact zb_0); done) | (simp [cGStep, cS, c_u8, cF, take_len_map]; done)) : p ∧ K := ⟨h, k⟩
theorem ca_0 {P : Prop} (h : P := by repeat (first | exact True.intro | refine ci ?_)) : P := h
theorem pr {p K : Prop} (k : K) (h : p := by first | assumption | exact Int.natCast_nonneg _ | exact Nat.le_refl _ | exact Nat.zero_le _ | omega | (simp; done) | (simp; omega)) : p ∧ K := ⟨h, k⟩
theorem pl {p K : Prop} (k : K) (h : p := by first | rfl | exact List.length_map _ | (simp; done) | (simp; omega)) : p ∧ K := ⟨h, k⟩
theorem pe {p K : Prop} (k : K) (h : p := by first | omega | (simp; omega) | (simp only [List.length_map, List.length_cons, List.length_nil, List.length_append]; omega) | (simp only [List.length_map, List.drop_zero, List.length_cons, List.length_nil, Nat.zero_add, Nat.add_zero] at *; omega)) : p ∧ K := ⟨h, k⟩
theorem dr {b : Bool} {p K : Prop} (k : K) (h : b = true → p := by intro h; first | (cases h; done) | exact ⟨by kernel_rfl, by kernel_rfl⟩) : (b = true → p) ∧ K := ⟨h, k⟩
theorem cl {C : Cx} {n : Nat} {o : Oper} {τ : Nat → AV} {η : Nat → Ent} {f : FuncId} {os : Array Operand} {ats : Array TypeId} {r : AV} {args : List AV} {K : Foot → Prop} (ho : o.op = .call ⟨.value (.func f), os, ats⟩) (hc : ACall C f args r) (k : K ⟨r, [], []⟩)
    (hd : InB n o.dst := by exact Nat.le_of_ble_eq_true rfl) (hargs : os.toList.map (evA τ) = args := by first | rfl | (simp [cGStep, cS, c_u8, cF]; done) | (repeat (first | exact rfl | refine cons_eq ?_ ?_ | exact sl_dt rfl))) (hfr : frs args := by repeat (first | exact trivial | exact fr1_eA _ | exact fr0_eA _ | exact fr1_fr (by assumption) | exact FrV.h | refine And.intro ?_ ?_)) (hr : fr1 r := by repeat (first | exact trivial | exact fr1_eA _ | exact fr0_eA _ | exact fr1_fr (by assumption) | exact FrV.h | refine And.intro ?_ ?_)) : ∃ f : Foot, LF C n o τ η f ∧ K f := ⟨_, lf_call ho hd hargs hc hfr hr, k⟩
theorem clb {C : Cx} {n : Nat} {o : Oper} {τ : Nat → AV} {η : Nat → Ent} {f : FuncId} {os : Array Operand} {ats : Array TypeId} {r : AV} {xs ys : List AV} {K : Foot → Prop} (bs : List Nat) (ho : o.op = .call ⟨.value (.func f), os, ats⟩) (hargs : os.toList.map (evA τ) = xs) (hc : ACall C f ys r) (k : K ⟨r, [], bs⟩)
    (hd : InB n o.dst := by exact Nat.le_of_ble_eq_true rfl) (hb : BWL η (dropB η bs) xs ys := by exact zb_0) (hr : scal r := by repeat (first | exact trivial | exact scal0_eA _ | exact scal_eA _ | refine And.intro ?_ ?_)) : ∃ f : Foot, LF C n o τ η f ∧ K f := ⟨_, lf_callB bs ho hd hargs hb hc hr, k⟩
theorem clf {C : Cx} {n : Nat} {o : Oper} {τ : Nat → AV} {η : Nat → Ent} {f : FuncId} {os : Array Operand} {ats : Array TypeId} {r : AV} {xs ys : List AV} {K : Foot → Prop} (us : List (Nat × Ent)) (ho : o.op = .call ⟨.value (.func f), os, ats⟩) (hargs : os.toList.map (evA τ) = xs) (hc : ACall C f ys r) (k : K ⟨r, us, []⟩)
    (hus : allUs η us := by repeat (first | exact trivial | refine And.intro rfl ?_)) (hul : ltUs n us := by repeat (first | exact trivial | refine And.intro (Nat.le_of_ble_eq_true rfl) ?_)) (hd : InB n o.dst := by exact Nat.le_of_ble_eq_true rfl) (hb : BWL η (dropB η (us.map (·.1))) xs ys := by exact zb_0) (hr : fr1 r := by repeat (first | exact trivial | exact fr1_eA _ | exact fr0_eA _ | exact fr1_fr (by assumption) | exact FrV.h | refine And.intro ?_ ?_)) : ∃ f : Foot, LF C n o τ η f ∧ K f := ⟨_, lf_callF us (allUs_at hus) (ltUs_at hul) ho hd hargs hb hc hr, k⟩
theorem clg {C : Cx} {n : Nat} {o : Oper} {τ : Nat → AV} {η : Nat → Ent} {f : FuncId} {os : Array Operand} {ats : Array TypeId} {r : AV} {xs ys : List AV} {bs bs' : List (Nat × Blk)} {ks : List Nat} {K : Foot → Prop} (ρ : List (Nat × Nat)) (fz : List Nat) (go nb : List (Nat × Ent)) (r' : AV) (ho : o.op = .call ⟨.value (.func f), os, ats⟩) (hargs : os.toList.map (evA τ) = xs)
    (hc : ACallG C f ys bs ks r bs') (k : K ⟨r', go ++ nb, []⟩) (hd : InB n o.dst := by exact Nat.le_of_ble_eq_true rfl) (hok : okC ρ fz bs ks bs' (idsE go) = true := by rfl) (hgo : allUs η go := by repeat (first | exact trivial | refine And.intro rfl ?_)) (hgl : ltUs n go := by repeat (first | exact trivial | refine And.intro (Nat.le_of_ble_eq_true rfl) ?_))
    (hw : GWL η (fE bs) (lk ρ) (fun i => inB fz i = true) (fun i => inB (keys bs) i = true) xs ys := by exact zg_0) (hb : GBL η (fE bs) (lk ρ) (fun i => inB fz i = true) (fun i => inB (keys bs) i = true) bs := by exact zg_0)
    (hr : GW (fE bs') (updAll η (go ++ nb)) (lk (backN ρ bs')) (fun _ => False) (fun i => inB (idsE nb) i = true) r r' := by exact zg_0)
    (hnb : nbOk n η (updAll η (go ++ nb)) ρ ks (fE bs') (lk (backN ρ bs')) (fun i => inB (idsE nb) i = true) bs' nb := by repeat (first | exact True.intro | rfl | exact Nat.le_of_ble_eq_true rfl | exact gb_nil rfl rfl | refine gb_some ⟨rfl, rfl, rfl⟩ ?_ | refine And.intro ?_ ?_ | refine gw_ren rfl rfl rfl rfl rfl ?_ | refine gw_pren rfl rfl rfl rfl rfl | exact gw_thaw rfl rfl rfl | refine gw_tup ?_ | exact GWL.nil | exact gwll_nil | exact gw_c | exact GW.sl | exact GW.nil | exact gwll_same rfl FrI.h | refine GWL.cons ?_ ?_ | refine gwll_cons ?_ ?_ | (refine gw_own3 rfl rfl rfl FrI.h ?_ ?_ ?_) | exact GW.fr FrV.h | exact GW.fr (by assumption) | refine gw_agg ?_ | refine gw_clo ?_ | refine gw_ptr rfl rfl rfl ?_ | (refine gw_own rfl rfl rfl ?_ FrI.h ?_ ?_) | assumption | omega | rfl | (rw [List.length_map, ← List.length_append]; assumption) | (refine gwll_same ?_ FrI.h; (simp [cGStep, cS, c_u8, cF] <;> fail)) | (rw [List.map_set]; refine gwll_set (by first | rfl | omega | simp) ?_ ?_) | refine gwll_set (by first | rfl | omega | simp) ?_ ?_ | (rw [List.map_replicate]; refine gwll_rep ?_) | refine gwll_rep ?_ | (rw [List.map_append]; refine gwll_append ?_ ?_) | refine gwll_append ?_ ?_ | (simp [cGStep, cS, c_u8, cF, take_len_map] <;> fail) | (rw [List.drop_zero, List.take_of_length_le] <;> first | rfl | (simp [cGStep, cS, c_u8, cF] <;> fail)) | (simp; omega) | (simp only [List.length_map, List.drop_zero, List.length_cons, List.length_nil, Nat.zero_add, Nat.add_zero] at *; omega))) : ∃ f : Foot, LF C n o τ η f ∧ K f := ⟨_, lf_callG ρ fz go nb ho hd hargs hc hok hgo hgl hw hb hr hnb, k⟩
def M_planfile_clock_L1 (z4 : ByteArray) : Nat → Int → Int → Option (Int ⊕ (Int × ByteArray × Bool))
  | 0, _, _ => none
  | k28 + 1, v26, v27 =>
    sel (decide (v27 < (((bys z4).map c_u8).length : Int)))
     (ix (bys z4) v27 (fun y29 =>
       sel (decide (y29 < 48))
        (some (.inr (0, (⟨#[]⟩ : ByteArray), false)))
        (sel (decide (y29 > 57))
          (some (.inr (0, (⟨#[]⟩ : ByteArray), false)))
          (M_planfile_clock_L1 z4 k28 (IntKind.i64.wrap ((IntKind.i64.wrap (10 * v26)) + (IntKind.i64.wrap (IntKind.u8.wrap (y29 - 48))))) (IntKind.i64.wrap (v27 + 1))))))
     (some (.inl v26))
def M_planfile_clock (a0 : ByteArray) : Option (Int × ByteArray × Bool) :=
  ob3 (M_strings_Cut a0 (⟨#[58]⟩ : ByteArray)) (fun z1 z2 z3 =>
   ob1 (M_strings_Trim z1 (⟨#[32, 9, 13]⟩ : ByteArray)) (fun z4 =>
    ob1 (sel (!z3)
      (some (.inr (0, (⟨#[]⟩ : ByteArray), false)))
      (sel (decide ((z4.size : Int) < 1))
        (some (.inr (0, (⟨#[]⟩ : ByteArray), false)))
        (sel (decide ((z4.size : Int) > 9))
          (some (.inr (0, (⟨#[]⟩ : ByteArray), false)))
          (some (.inl ())))) : Option (Unit ⊕ (Int × ByteArray × Bool)))
     (osum
     (fun _ => ob1 (grd (z4.size ≤ 140737488355328) (M_planfile_clock_L1 z4 (((((bys z4).map c_u8).length : Int)).toNat + 1) 0 0) : Option (Int ⊕ (Int × ByteArray × Bool)))
        (osum
        (fun v17 => ob1 (M_strings_Trim z2 (⟨#[32, 9, 13]⟩ : ByteArray)) (fun z30 =>
           some (v17, z30, true)))
        (fun (r18, r19, r20) => some (r18, r19, r20))))
     (fun (r5, r6, r7) => some (r5, r6, r7)))))
set_option maxHeartbeats 16000000 in
set_option maxRecDepth 100000 in
theorem A_planfile_clock (a0 : ByteArray) {r1 : Int} {r2 : ByteArray} {r3 : Bool} (h : M_planfile_clock a0 = some (r1, r2, r3)) : ACall cx 51 [.c (.string a0)] (.tup [.c (.int .i64 r1), .c (.string r2), .c (.bool r3)]) := by
  refine aOf Tryd.func51 rfl (by decide) rfl (Nat.le_of_ble_eq_true rfl) ?_; intro _; unfold M_planfile_clock at h; refine aSq ?_; refine aRg ?_; intro _; refine dr ?_; refine aSq ?_; refine aRg ?_; intro _; obtain ⟨z1, z2, z3, u1, h⟩ := ob3_ok h; refine cl rfl (A_strings_Cut a0 (⟨#[58]⟩ : ByteArray) u1) ?_; intro _; refine dr ?_; refine aSq ?_; refine aRg ?_; intro _; obtain ⟨z4, u2, h⟩ := ob1_ok h; refine cl rfl (A_strings_Trim z1 (⟨#[32, 9, 13]⟩ : ByteArray) u2) ?_; intro _; refine dr ?_; obtain ⟨o3, h, hK4⟩ := ob1_ok h; refine awp_cut (α := Unit) (fun _ => mkS 54 [(5, .c (.string z4)), (6, .c (.string z2))] []) (fun v => o3 = (.inl v)) ?_ ?_
  · refine aSq ?_; refine aRg ?_; intro _; refine spf h (fun c5 h => ?_) (fun c5 h => ?_)
    · intro _; refine spf h (fun c6 h => ?_) (fun c6 h => ?_)
      · intro _; refine dr ?_; refine aCd ?_; intro _; refine spl h (fun c7 h => ?_) (fun c7 h => ?_)
        · refine aSq ?_; refine aRg ?_; intro _; refine dr ?_; refine aRt ?_; have j8 := Option.some.inj h; subst j8; replace h := (osum_r hK4); intro _; obtain ⟨rfl, rfl, rfl⟩ := inj3 h; exact ca_0
        · refine aSk ?_; refine ⟨(), (Option.some.inj h).symm, ?_⟩; exact ca_0
      · intro _; refine dr ?_; refine aCd ?_; intro _; refine litT ?_; refine aSq ?_; refine aRg ?_; intro _; refine dr ?_; refine aRt ?_; have j9 := Option.some.inj h; subst j9; replace h := (osum_r hK4); intro _; obtain ⟨rfl, rfl, rfl⟩ := inj3 h; exact ca_0
    · intro _; refine dr ?_; refine aCd ?_; intro _; refine litT ?_; refine aSq ?_; refine aRg ?_; intro _; refine dr ?_; refine aRt ?_; have j10 := Option.some.inj h; subst j10; replace h := (osum_r hK4); intro _; obtain ⟨rfl, rfl, rfl⟩ := inj3 h; exact ca_0
  · rintro _ ho; have ho := ho.symm; subst ho; intro _; replace h := (osum_l hK4); refine aSq ?_; refine aRg ?_; intro _; refine dr ?_; obtain ⟨o11, h, hK12⟩ := ob1_ok h; refine awp_cut (α := Int) (fun v17 => mkS 54 [(6, .c (.string z2)), (8, .c (.int .i64 v17))] []) (fun v => o11 = (.inl v)) ?_ ?_
    · refine aSq ?_; refine aRg ?_; intro _; obtain ⟨q13, h⟩ := grd_ok h; refine ⟨_, lf_bys rfl (Nat.le_of_ble_eq_true rfl) rfl (tyTab_ok 9 _ rfl) rfl (tyTab_ok 43 _ rfl) rfl Tryd.underlying5 (by first | assumption | omega), ?_⟩; intro _; refine dr ?_; refine aBk ?_; refine awp_loop (α := Nat × Int × Int) (fun x => mkS 54 [(6, .c (.string z2)), (8, .c (.int .i64 x.2.1)), (32, .sl 1 ((bys z4).map c_u8)), (33, .c (.int .i64 (((bys z4).map c_u8).length : Int))), (34, .c (.int .i64 x.2.2))] []) (fun x => M_planfile_clock_L1 z4 x.1 x.2.1 x.2.2 = some o11) (fun x => x.1) (((((bys z4).map c_u8).length : Int)).toNat + 1, 0, 0) h ?_ ?_
      · exact ca_0
      · intro x14 h; intro _; obtain ⟨k28, m15, h⟩ := succ_of (f := fun n => M_planfile_clock_L1 z4 n x14.2.1 x14.2.2) rfl h; replace h : M_planfile_clock_L1 z4 (k28 + 1) x14.2.1 x14.2.2 = some o11 := h; rw [M_planfile_clock_L1] at h; refine aSq ?_; refine aRg ?_; intro _; refine dr ?_; refine aSq ?_; refine aCd ?_; intro _; refine spl h (fun c16 h => ?_) (fun c16 h => ?_)
        · refine aSk ?_; refine aSq ?_; refine aBk ?_; refine aSq ?_; refine aRg ?_; intro _; obtain ⟨y29, w17, q18, h⟩ := ix_ok h; refine Exists.intro (c_u8 y29) (And.intro (map_at' w17) ?_); intro _; refine pr ?_; refine dr ?_; refine aSq ?_; refine aSq ?_; refine aRg ?_; intro _; refine spf h (fun c19 h => ?_) (fun c19 h => ?_)
          · intro _; refine dr ?_; refine aCd ?_; intro _; refine spl h (fun c20 h => ?_) (fun c20 h => ?_)
            · refine aSq ?_; refine aRg ?_; intro _; refine dr ?_; refine aRt ?_; have j21 := Option.some.inj h; subst j21; replace h := (osum_r hK12); intro _; obtain ⟨rfl, rfl, rfl⟩ := inj3 h; exact ca_0
            · refine aSk ?_; refine aRg ?_; intro _; refine dr ?_; refine aRg ?_; intro _; refine dr ?_; refine ⟨(k28, (IntKind.i64.wrap ((IntKind.i64.wrap (10 * x14.2.1)) + (IntKind.i64.wrap (IntKind.u8.wrap (y29 - 48))))), (IntKind.i64.wrap (x14.2.2 + 1))), h, ltS m15, ?_⟩; exact ca_0
          · intro _; refine dr ?_; refine aCd ?_; intro _; refine litT ?_; refine aSq ?_; refine aRg ?_; intro _; refine dr ?_; refine aRt ?_; have j22 := Option.some.inj h; subst j22; replace h := (osum_r hK12); intro _; obtain ⟨rfl, rfl, rfl⟩ := inj3 h; exact ca_0
        · refine aEx ?_; refine ⟨x14.2.1, (Option.some.inj h).symm, ?_⟩; exact ca_0
    · rintro v17 ho; have ho := ho.symm; subst ho; intro _; replace h := (osum_l hK12); refine aSq ?_; refine aRg ?_; intro _; obtain ⟨z30, u23, h⟩ := ob1_ok h; refine cl rfl (A_strings_Trim z2 (⟨#[32, 9, 13]⟩ : ByteArray) u23) ?_; intro _; refine dr ?_; refine aRt ?_; intro _; obtain ⟨rfl, rfl, rfl⟩ := inj3 h; exact ca_0
def M_planfile_words_L1 (a0 : ByteArray) : Nat → Int → Option (Unit ⊕ ((List ByteArray) × Bool))
  | 0, _ => none
  | k17 + 1, v16 =>
    sel (decide (v16 < (((bys (a0.extract 1 ((IntKind.i64.wrap ((a0.size : Int) - 1)).toNat))).map c_u8).length : Int)))
     (ix (bys (a0.extract 1 ((IntKind.i64.wrap ((a0.size : Int) - 1)).toNat))) v16 (fun y18 =>
       sel (y18 == 40)
        (some (.inr ([], false)))
        (sel (y18 == 41)
          (some (.inr ([], false)))
          (sel (decide (y18 < 32))
            (sel (y18 != 9)
              (some (.inr ([], false)))
              (sel (y18 == 127)
                (some (.inr ([], false)))
                (M_planfile_words_L1 a0 k17 (IntKind.i64.wrap (v16 + 1)))))
            (sel (y18 == 127)
              (some (.inr ([], false)))
              (M_planfile_words_L1 a0 k17 (IntKind.i64.wrap (v16 + 1))))))))
     (some (.inl ()))
def M_planfile_words (a0 : ByteArray) : Option ((List ByteArray) × Bool) :=
  ob1 (sel (decide ((a0.size : Int) < 2))
    (some (.inr ([], false)))
    (sel ((byt a0 0) != 40)
      (grd (0 < (a0.size : Int)) (some (.inr ([], false))))
      (grd (0 < (a0.size : Int)) (grd (0 ≤ (IntKind.i64.wrap ((a0.size : Int) - 1))) (grd ((IntKind.i64.wrap ((a0.size : Int) - 1)) < (a0.size : Int)) (sel ((byt a0 (IntKind.i64.wrap ((a0.size : Int) - 1))) != 41)
        (some (.inr ([], false)))
        (some (.inl ()))))))) : Option (Unit ⊕ ((List ByteArray) × Bool)))
   (osum
   (fun _ => grd (0 ≤ (IntKind.i64.wrap ((a0.size : Int) - 1))) (grd (1 ≤ (IntKind.i64.wrap ((a0.size : Int) - 1)).toNat) (grd ((IntKind.i64.wrap ((a0.size : Int) - 1)).toNat ≤ a0.size) (ob1 (grd ((a0.extract 1 ((IntKind.i64.wrap ((a0.size : Int) - 1)).toNat)).size ≤ 140737488355328) (M_planfile_words_L1 a0 (((((bys (a0.extract 1 ((IntKind.i64.wrap ((a0.size : Int) - 1)).toNat))).map c_u8).length : Int)).toNat + 1) 0) : Option (Unit ⊕ ((List ByteArray) × Bool)))
      (osum
      (fun _ => ob1 (M_FieldsFunc (a0.extract 1 ((IntKind.i64.wrap ((a0.size : Int) - 1)).toNat))) (fun z19 =>
         some (z19, (decide (((z19.length : Nat) : Int) > 0)))))
      (fun (r10, r11) => some (r10, r11)))))))
   (fun (r1, r2) => some (r1, r2)))
set_option maxHeartbeats 16000000 in
set_option maxRecDepth 100000 in
theorem A_planfile_words (a0 : ByteArray) {r1 : List ByteArray} {r2 : Bool} (h : M_planfile_words a0 = some (r1, r2)) : ACallG cx 52 [.c (.string a0)] [] [] (.tup [.own 0 0 0 r1.length, .c (.bool r2)]) [(0, ⟨9, 1, false, r1.map cS⟩)] := by
  refine acallg_of 61 Tryd.func52 rfl (by decide) rfl (Nat.le_of_ble_eq_true rfl) rfl rfl ?_; intro _; unfold M_planfile_words at h; refine aSq ?_; refine aRg ?_; intro _; refine dr ?_; obtain ⟨o1, h, hK2⟩ := ob1_ok h; refine awp_cut (α := Unit) (fun _ => mkG 60 61 [(0, .c (.string a0))] []) (fun v => o1 = (.inl v)) ?_ ?_
  · refine aSq ?_; refine aRg ?_; intro _; refine spf h (fun c3 h => ?_) (fun c3 h => ?_)
    · intro _; refine spf h (fun c4 h => ?_) (fun c4 h => ?_)
      · intro _; obtain ⟨q5, h⟩ := grd_ok h; obtain ⟨q6, h⟩ := grd_ok h; obtain ⟨q7, h⟩ := grd_ok h; refine pr ?_; refine pr ?_; refine pr ?_; refine pr ?_; refine dr ?_; refine aCd ?_; intro _; refine spl h (fun c8 h => ?_) (fun c8 h => ?_)
        · refine aSq ?_; refine aRg ?_; intro _; refine dr ?_; refine aRt ?_; have j9 := Option.some.inj h; subst j9; replace h := (osum_r hK2); intro _; obtain ⟨rfl, rfl⟩ := inj2 h; all_goals (refine Exists.intro [(0, 9000)] (And.intro rfl (And.intro ?_ ?_))); all_goals (exact zg_0)
        · refine aSk ?_; refine ⟨(), (Option.some.inj h).symm, ?_⟩; exact ca_0
      · intro _; obtain ⟨q10, h⟩ := grd_ok h; refine pr ?_; refine pr ?_; refine dr ?_; refine aCd ?_; intro _; refine litT ?_; refine aSq ?_; refine aRg ?_; intro _; refine dr ?_; refine aRt ?_; have j11 := Option.some.inj h; subst j11; replace h := (osum_r hK2); intro _; obtain ⟨rfl, rfl⟩ := inj2 h; all_goals (refine Exists.intro [(0, 9000)] (And.intro rfl (And.intro ?_ ?_))); all_goals (exact zg_0)
    · intro _; refine dr ?_; refine aCd ?_; intro _; refine litT ?_; refine aSq ?_; refine aRg ?_; intro _; refine dr ?_; refine aRt ?_; have j12 := Option.some.inj h; subst j12; replace h := (osum_r hK2); intro _; obtain ⟨rfl, rfl⟩ := inj2 h; all_goals (refine Exists.intro [(0, 9000)] (And.intro rfl (And.intro ?_ ?_))); all_goals (exact zg_0)
  · rintro _ ho; have ho := ho.symm; subst ho; intro _; replace h := (osum_l hK2); refine aSq ?_; refine aRg ?_; intro _; obtain ⟨q13, h⟩ := grd_ok h; obtain ⟨q14, h⟩ := grd_ok h; obtain ⟨q15, h⟩ := grd_ok h; refine pr ?_; refine pr ?_; refine pr ?_; refine pr ?_; refine dr ?_; obtain ⟨o16, h, hK17⟩ := ob1_ok h; refine awp_cut (α := Unit) (fun _ => mkG 60 61 [(0, .c (.string (a0.extract 1 ((IntKind.i64.wrap ((a0.size : Int) - 1)).toNat))))] []) (fun v => o16 = (.inl v)) ?_ ?_
    · refine aSq ?_; refine aRg ?_; intro _; obtain ⟨q18, h⟩ := grd_ok h; refine ⟨_, lf_bys rfl (Nat.le_of_ble_eq_true rfl) rfl (tyTab_ok 9 _ rfl) rfl (tyTab_ok 43 _ rfl) rfl Tryd.underlying5 (by first | assumption | omega), ?_⟩; intro _; refine dr ?_; refine aBk ?_; refine awp_loop (α := Nat × Int) (fun x => mkG 60 61 [(0, .c (.string (a0.extract 1 ((IntKind.i64.wrap ((a0.size : Int) - 1)).toNat)))), (29, .sl 1 ((bys (a0.extract 1 ((IntKind.i64.wrap ((a0.size : Int) - 1)).toNat))).map c_u8)), (30, .c (.int .i64 (((bys (a0.extract 1 ((IntKind.i64.wrap ((a0.size : Int) - 1)).toNat))).map c_u8).length : Int))), (31, .c (.int .i64 x.2))] []) (fun x => M_planfile_words_L1 a0 x.1 x.2 = some o16) (fun x => x.1) (((((bys (a0.extract 1 ((IntKind.i64.wrap ((a0.size : Int) - 1)).toNat))).map c_u8).length : Int)).toNat + 1, 0) h ?_ ?_
      · exact ca_0
      · intro x19 h; intro _; obtain ⟨k17, m20, h⟩ := succ_of (f := fun n => M_planfile_words_L1 a0 n x19.2) rfl h; replace h : M_planfile_words_L1 a0 (k17 + 1) x19.2 = some o16 := h; rw [M_planfile_words_L1] at h; refine aSq ?_; refine aRg ?_; intro _; refine dr ?_; refine aSq ?_; refine aCd ?_; intro _; refine spl h (fun c21 h => ?_) (fun c21 h => ?_)
        · refine aSk ?_; refine aSq ?_; refine aBk ?_; refine aSq ?_; refine aRg ?_; intro _; obtain ⟨y18, w22, q23, h⟩ := ix_ok h; refine Exists.intro (c_u8 y18) (And.intro (map_at' w22) ?_); intro _; refine pr ?_; refine dr ?_; refine aSq ?_; refine aRg ?_; intro _; refine spf h (fun c24 h => ?_) (fun c24 h => ?_)
          · intro _; refine spf h (fun c25 h => ?_) (fun c25 h => ?_)
            · intro _; refine spl h (fun c26 h => ?_) (fun c26 h => ?_)
              · intro _; refine spf h (fun c27 h => ?_) (fun c27 h => ?_)
                · intro _; refine dr ?_; refine aCd ?_; intro _; refine spl h (fun c28 h => ?_) (fun c28 h => ?_)
                  · refine aSq ?_; refine aRg ?_; intro _; refine dr ?_; refine aRt ?_; have j29 := Option.some.inj h; subst j29; replace h := (osum_r hK17); intro _; obtain ⟨rfl, rfl⟩ := inj2 h; all_goals (refine Exists.intro [(0, 9000)] (And.intro rfl (And.intro ?_ ?_))); all_goals (exact zg_0)
                  · refine aSk ?_; refine aRg ?_; intro _; refine dr ?_; refine ⟨(k17, (IntKind.i64.wrap (x19.2 + 1))), h, ltS m20, ?_⟩; exact ca_0
                · intro _; refine dr ?_; refine aCd ?_; intro _; refine litT ?_; refine aSq ?_; refine aRg ?_; intro _; refine dr ?_; refine aRt ?_; have j30 := Option.some.inj h; subst j30; replace h := (osum_r hK17); intro _; obtain ⟨rfl, rfl⟩ := inj2 h; all_goals (refine Exists.intro [(0, 9000)] (And.intro rfl (And.intro ?_ ?_))); all_goals (exact zg_0)
              · intro _; refine dr ?_; refine aCd ?_; intro _; refine spl h (fun c31 h => ?_) (fun c31 h => ?_)
                · refine aSq ?_; refine aRg ?_; intro _; refine dr ?_; refine aRt ?_; have j32 := Option.some.inj h; subst j32; replace h := (osum_r hK17); intro _; obtain ⟨rfl, rfl⟩ := inj2 h; all_goals (refine Exists.intro [(0, 9000)] (And.intro rfl (And.intro ?_ ?_))); all_goals (exact zg_0)
                · refine aSk ?_; refine aRg ?_; intro _; refine dr ?_; refine ⟨(k17, (IntKind.i64.wrap (x19.2 + 1))), h, ltS m20, ?_⟩; exact ca_0
            · intro _; refine dr ?_; refine aCd ?_; intro _; refine litT ?_; refine aSq ?_; refine aRg ?_; intro _; refine dr ?_; refine aRt ?_; have j33 := Option.some.inj h; subst j33; replace h := (osum_r hK17); intro _; obtain ⟨rfl, rfl⟩ := inj2 h; all_goals (refine Exists.intro [(0, 9000)] (And.intro rfl (And.intro ?_ ?_))); all_goals (exact zg_0)
          · intro _; refine dr ?_; refine aCd ?_; intro _; refine litT ?_; refine aSq ?_; refine aRg ?_; intro _; refine dr ?_; refine aRt ?_; have j34 := Option.some.inj h; subst j34; replace h := (osum_r hK17); intro _; obtain ⟨rfl, rfl⟩ := inj2 h; all_goals (refine Exists.intro [(0, 9000)] (And.intro rfl (And.intro ?_ ?_))); all_goals (exact zg_0)
        · refine aEx ?_; refine ⟨(), (Option.some.inj h).symm, ?_⟩; exact ca_0
    · rintro _ ho; have ho := ho.symm; subst ho; intro _; replace h := (osum_l hK17); refine aSq ?_; refine aRg ?_; intro _; obtain ⟨z19, u35, h⟩ := ob1_ok h; refine clg [(0, 55)] [] [] [(55, ⟨2, some ⟨9, 1, false, z19.map cS⟩⟩)] (.own 55 2 0 z19.length) rfl rfl (A_FieldsFunc (a0.extract 1 ((IntKind.i64.wrap ((a0.size : Int) - 1)).toNat)) u35) ?_; intro _; refine dr ?_; refine aSq ?_; refine aRg ?_; intro _; refine dr ?_; refine aRt ?_; intro _; obtain ⟨rfl, rfl⟩ := inj2 h; all_goals (refine Exists.intro [(0, 55)] (And.intro rfl (And.intro ?_ ?_))); all_goals (exact zg_0)
def M_formula_reserved : Option (List ByteArray) :=
  some [(⟨#[97, 110, 100]⟩ : ByteArray), (⟨#[111, 114]⟩ : ByteArray), (⟨#[110, 111, 116]⟩ : ByteArray), (⟨#[105, 109, 112, 108, 121]⟩ : ByteArray), (⟨#[102, 111, 114, 97, 108, 108]⟩ : ByteArray), (⟨#[101, 120, 105, 115, 116, 115]⟩ : ByteArray), (⟨#[119, 104, 101, 110]⟩ : ByteArray), (⟨#[97, 115, 115, 105, 103, 110]⟩ : ByteArray), (⟨#[105, 110, 99, 114, 101, 97, 115, 101]⟩ : ByteArray), (⟨#[100, 101, 99, 114, 101, 97, 115, 101]⟩ : ByteArray), (⟨#[111, 98, 106, 101, 99, 116]⟩ : ByteArray)]
set_option maxHeartbeats 16000000 in
set_option maxRecDepth 100000 in
theorem A_formula_reserved {r1 : List ByteArray} (h : M_formula_reserved = some r1) : ACall cx 78 [] (.sl 1 (r1.map cS)) := by
  refine aOf Tryd.func78 rfl (by decide) rfl (Nat.le_of_ble_eq_true rfl) ?_; intro _; unfold M_formula_reserved at h; refine aSq ?_; refine aRg ?_; intro _; refine dr ?_; refine aSq ?_; refine aRg ?_; intro _; refine dr ?_; refine aRt ?_; intro _; obtain rfl := inj1 h; exact ca_0
def M_s_Index_string_L1 (a0 : List ByteArray) (a1 : ByteArray) : Nat → Int → Option (Int)
  | 0, _ => none
  | k5 + 1, v4 =>
    sel (decide (v4 < ((a0.map cS).length : Int)))
     (ix a0 v4 (fun y6 =>
       sel (a1.toList == y6.toList)
        (some v4)
        (M_s_Index_string_L1 a0 a1 k5 (IntKind.i64.wrap (v4 + 1)))))
     (some (-1))
def M_s_Index_string (a0 : List ByteArray) (a1 : ByteArray) : Option (Int) :=
  M_s_Index_string_L1 a0 a1 ((((a0.map cS).length : Int)).toNat + 1) 0
set_option maxHeartbeats 16000000 in
set_option maxRecDepth 100000 in
theorem A_s_Index_string (a0 : List ByteArray) (a1 : ByteArray) {r1 : Int} (h : M_s_Index_string a0 a1 = some r1) : ACall cx 94 [.sl 1 (a0.map cS), .c (.string a1)] (.c (.int .i64 r1)) := by
  refine aOf Tryd.func94 rfl (by decide) rfl (Nat.le_of_ble_eq_true rfl) ?_; intro _; unfold M_s_Index_string at h; refine aSq ?_; refine aRg ?_; intro _; refine dr ?_; refine aSq ?_; refine aSq ?_; refine aRg ?_; intro _; refine dr ?_; refine aBk ?_; refine awp_loop (α := Nat × Int) (fun x => mkS 19 [(0, .sl 1 (a0.map cS)), (1, .c (.string a1)), (7, .c (.int .i64 ((a0.map cS).length : Int))), (8, .c (.int .i64 x.2))] []) (fun x => M_s_Index_string_L1 a0 a1 x.1 x.2 = some r1) (fun x => x.1) ((((a0.map cS).length : Int)).toNat + 1, 0) h ?_ ?_
  · exact ca_0
  · intro x1 h; intro _; obtain ⟨k5, m2, h⟩ := succ_of (f := fun n => M_s_Index_string_L1 a0 a1 n x1.2) rfl h; replace h : M_s_Index_string_L1 a0 a1 (k5 + 1) x1.2 = some r1 := h; rw [M_s_Index_string_L1] at h; refine aSq ?_; refine aRg ?_; intro _; refine dr ?_; refine aSq ?_; refine aCd ?_; intro _; refine spl h (fun c3 h => ?_) (fun c3 h => ?_)
    · refine aSk ?_; refine aSq ?_; refine aBk ?_; refine aSq ?_; refine aRg ?_; intro _; refine dr ?_; refine aSq ?_; refine aRg ?_; intro _; obtain ⟨y6, w4, q5, h⟩ := ix_ok h; refine Exists.intro (cS y6) (And.intro (map_at' w4) ?_); intro _; refine pr ?_; refine dr ?_; refine aCd ?_; intro _; refine spl h (fun c6 h => ?_) (fun c6 h => ?_)
      · refine aSq ?_; refine aRg ?_; intro _; refine dr ?_; refine aRt ?_; intro _; obtain rfl := inj1 h; exact ca_0
      · refine aSk ?_; refine aRg ?_; intro _; refine dr ?_; refine ⟨(k5, (IntKind.i64.wrap (x1.2 + 1))), h, ltS m2, ?_⟩; exact ca_0
    · refine aEx ?_; refine aSq ?_; refine aRg ?_; intro _; refine dr ?_; refine aRt ?_; intro _; obtain rfl := inj1 h; exact ca_0
def M_s_Contains_string (a0 : List ByteArray) (a1 : ByteArray) : Option (Bool) :=
  ob1 (M_s_Index_string a0 a1) (fun z1 =>
   some (decide (z1 ≥ 0)))
set_option maxHeartbeats 16000000 in
set_option maxRecDepth 100000 in
theorem A_s_Contains_string (a0 : List ByteArray) (a1 : ByteArray) {r1 : Bool} (h : M_s_Contains_string a0 a1 = some r1) : ACall cx 77 [.sl 1 (a0.map cS), .c (.string a1)] (.c (.bool r1)) := by
  refine aOf Tryd.func77 rfl (by decide) rfl (Nat.le_of_ble_eq_true rfl) ?_; intro _; unfold M_s_Contains_string at h; refine aSq ?_; refine aRg ?_; intro _; refine dr ?_; refine aSq ?_; refine aRg ?_; intro _; obtain ⟨z1, u1, h⟩ := ob1_ok h; refine cl rfl (A_s_Index_string a0 a1 u1) ?_; intro _; refine dr ?_; refine aRt ?_; intro _; obtain rfl := inj1 h; exact ca_0
def M_formula_Name_L1 (a0 : ByteArray) : Nat → Int → Option (Unit ⊕ Bool)
  | 0, _ => none
  | k18 + 1, v17 =>
    sel (decide (v17 < (a0.size : Int)))
     (grd (0 ≤ v17) (grd (v17 < (a0.size : Int)) (ob1 (sel (decide ((byt a0 v17) ≥ 97))
        (some (decide ((byt a0 v17) ≤ 122)))
        (some false) : Option (Bool))
       (fun v19 => sel (!v19)
          (sel (v17 == 0)
            (some (.inr false))
            (sel (decide ((byt a0 v17) < 48))
              (sel ((byt a0 v17) != 45)
                (sel ((byt a0 v17) != 95)
                  (some (.inr false))
                  (M_formula_Name_L1 a0 k18 (IntKind.i64.wrap (v17 + 1))))
                (M_formula_Name_L1 a0 k18 (IntKind.i64.wrap (v17 + 1))))
              (sel (decide ((byt a0 v17) > 57))
                (sel ((byt a0 v17) != 45)
                  (sel ((byt a0 v17) != 95)
                    (some (.inr false))
                    (M_formula_Name_L1 a0 k18 (IntKind.i64.wrap (v17 + 1))))
                  (M_formula_Name_L1 a0 k18 (IntKind.i64.wrap (v17 + 1))))
                (M_formula_Name_L1 a0 k18 (IntKind.i64.wrap (v17 + 1))))))
          (M_formula_Name_L1 a0 k18 (IntKind.i64.wrap (v17 + 1)))))))
     (some (.inl ()))
def M_formula_Name (a0 : ByteArray) : Option (Bool) :=
  ob1 (M_formula_Name_L1 a0 (((a0.size : Int)).toNat + 1) 0 : Option (Unit ⊕ Bool))
   (osum
   (fun _ => sel (!(a0.toList == (⟨#[]⟩ : ByteArray).toList))
      (sel (decide ((a0.size : Int) ≤ 32))
        (ob1 (M_formula_reserved) (fun z21 =>
          ob1 (M_s_Contains_string z21 a0) (fun z22 =>
           some (!z22))))
        (some false))
      (some false))
   (fun r10 => some r10))
set_option maxHeartbeats 16000000 in
set_option maxRecDepth 100000 in
theorem A_formula_Name (a0 : ByteArray) {r1 : Bool} (h : M_formula_Name a0 = some r1) : ACall cx 54 [.c (.string a0)] (.c (.bool r1)) := by
  refine aOf Tryd.func54 rfl (by decide) rfl (Nat.le_of_ble_eq_true rfl) ?_; intro _; unfold M_formula_Name at h; refine aSq ?_; refine aRg ?_; intro _; refine dr ?_; obtain ⟨o1, h, hK2⟩ := ob1_ok h; refine awp_cut (α := Unit) (fun _ => mkS 56 [(0, .c (.string a0))] []) (fun v => o1 = (.inl v)) ?_ ?_
  · refine aSq ?_; refine aRg ?_; intro _; refine dr ?_; refine aBk ?_; refine awp_loop (α := Nat × Int) (fun x => mkS 56 [(0, .c (.string a0)), (7, .c (.int .i64 (a0.size : Int))), (8, .c (.int .i64 x.2))] []) (fun x => M_formula_Name_L1 a0 x.1 x.2 = some o1) (fun x => x.1) (((a0.size : Int)).toNat + 1, 0) h ?_ ?_
    · exact ca_0
    · intro x3 h; intro _; obtain ⟨k18, m4, h⟩ := succ_of (f := fun n => M_formula_Name_L1 a0 n x3.2) rfl h; replace h : M_formula_Name_L1 a0 (k18 + 1) x3.2 = some o1 := h; rw [M_formula_Name_L1] at h; refine aSq ?_; refine aRg ?_; intro _; refine dr ?_; refine aSq ?_; refine aCd ?_; intro _; refine spl h (fun c5 h => ?_) (fun c5 h => ?_)
      · refine aSk ?_; refine aSq ?_; refine aBk ?_; refine aSq ?_; refine aRg ?_; intro _; refine dr ?_; refine aSq ?_; refine aRg ?_; intro _; obtain ⟨q6, h⟩ := grd_ok h; obtain ⟨q7, h⟩ := grd_ok h; refine pr ?_; refine pr ?_; refine dr ?_; obtain ⟨o8, h, hK9⟩ := ob1_ok h; refine awp_cut (α := Bool) (fun v19 => mkS 56 [(0, .c (.string a0)), (3, .c (.int .i64 x3.2)), (4, .c (.int .u8 (byt a0 x3.2))), (5, .c (.bool v19)), (7, .c (.int .i64 (a0.size : Int))), (8, .c (.int .i64 x3.2))] []) (fun v => o8 = v) ?_ ?_
        · refine aRg ?_; intro _; refine spl h (fun c10 h => ?_) (fun c10 h => ?_)
          · intro _; refine dr ?_; refine ⟨(decide ((byt a0 x3.2) ≤ 122)), (Option.some.inj h).symm, ?_⟩; exact ca_0
          · intro _; refine dr ?_; refine ⟨false, (Option.some.inj h).symm, ?_⟩; exact ca_0
        · rintro v19 ho; have ho := ho.symm; subst ho; intro _; replace h := hK9; refine aSq ?_; refine aRg ?_; intro _; refine spl h (fun c11 h => ?_) (fun c11 h => ?_)
          · intro _; refine spf h (fun c12 h => ?_) (fun c12 h => ?_)
            · intro _; refine spf h (fun c13 h => ?_) (fun c13 h => ?_)
              · intro _; refine spl h (fun c14 h => ?_) (fun c14 h => ?_)
                · intro _; refine spl h (fun c15 h => ?_) (fun c15 h => ?_)
                  · intro _; refine dr ?_; refine aCd ?_; intro _; refine spl h (fun c16 h => ?_) (fun c16 h => ?_)
                    · refine aSq ?_; refine aRg ?_; intro _; refine dr ?_; refine aRt ?_; have j17 := Option.some.inj h; subst j17; replace h := (osum_r hK2); intro _; obtain rfl := inj1 h; exact ca_0
                    · refine aSk ?_; refine aRg ?_; intro _; refine dr ?_; refine ⟨(k18, (IntKind.i64.wrap (x3.2 + 1))), h, ltS m4, ?_⟩; exact ca_0
                  · intro _; refine dr ?_; refine aCd ?_; intro _; refine litF ?_; refine aSk ?_; refine aRg ?_; intro _; refine dr ?_; refine ⟨(k18, (IntKind.i64.wrap (x3.2 + 1))), h, ltS m4, ?_⟩; exact ca_0
                · intro _; refine dr ?_; refine aCd ?_; intro _; refine litF ?_; refine aSk ?_; refine aRg ?_; intro _; refine dr ?_; refine ⟨(k18, (IntKind.i64.wrap (x3.2 + 1))), h, ltS m4, ?_⟩; exact ca_0
              · intro _; refine spl h (fun c18 h => ?_) (fun c18 h => ?_)
                · intro _; refine dr ?_; refine aCd ?_; intro _; refine spl h (fun c19 h => ?_) (fun c19 h => ?_)
                  · refine aSq ?_; refine aRg ?_; intro _; refine dr ?_; refine aRt ?_; have j20 := Option.some.inj h; subst j20; replace h := (osum_r hK2); intro _; obtain rfl := inj1 h; exact ca_0
                  · refine aSk ?_; refine aRg ?_; intro _; refine dr ?_; refine ⟨(k18, (IntKind.i64.wrap (x3.2 + 1))), h, ltS m4, ?_⟩; exact ca_0
                · intro _; refine dr ?_; refine aCd ?_; intro _; refine litF ?_; refine aSk ?_; refine aRg ?_; intro _; refine dr ?_; refine ⟨(k18, (IntKind.i64.wrap (x3.2 + 1))), h, ltS m4, ?_⟩; exact ca_0
            · intro _; refine dr ?_; refine aCd ?_; intro _; refine litT ?_; refine aSq ?_; refine aRg ?_; intro _; refine dr ?_; refine aRt ?_; have j21 := Option.some.inj h; subst j21; replace h := (osum_r hK2); intro _; obtain rfl := inj1 h; exact ca_0
          · intro _; refine dr ?_; refine aCd ?_; intro _; refine litF ?_; refine aSk ?_; refine aRg ?_; intro _; refine dr ?_; refine ⟨(k18, (IntKind.i64.wrap (x3.2 + 1))), h, ltS m4, ?_⟩; exact ca_0
      · refine aEx ?_; refine ⟨(), (Option.some.inj h).symm, ?_⟩; exact ca_0
  · rintro _ ho; have ho := ho.symm; subst ho; intro _; replace h := (osum_l hK2); refine aSq ?_; refine aRg ?_; intro _; refine spl h (fun c22 h => ?_) (fun c22 h => ?_)
    · intro _; refine spl h (fun c23 h => ?_) (fun c23 h => ?_)
      · intro _; obtain ⟨z21, u24, h⟩ := ob1_ok h; refine cl rfl (A_formula_reserved u24) ?_; intro _; obtain ⟨z22, u25, h⟩ := ob1_ok h; refine cl rfl (A_s_Contains_string z21 a0 u25) ?_; intro _; refine dr ?_; refine aRt ?_; intro _; obtain rfl := inj1 h; exact ca_0
      · intro _; refine dr ?_; refine aRt ?_; intro _; obtain rfl := inj1 h; exact ca_0
    · intro _; refine dr ?_; refine aRt ?_; intro _; obtain rfl := inj1 h; exact ca_0
def M_strings_Clone (a0 : ByteArray) : Option (ByteArray) :=
  ob1 (M_stringslite_Clone a0) (fun z1 =>
   some z1)
set_option maxHeartbeats 16000000 in
set_option maxRecDepth 100000 in
theorem A_strings_Clone (a0 : ByteArray) {r1 : ByteArray} (h : M_strings_Clone a0 = some r1) : ACall cx 55 [.c (.string a0)] (.c (.string r1)) := by
  refine aOf Tryd.func55 rfl (by decide) rfl (Nat.le_of_ble_eq_true rfl) ?_; intro _; unfold M_strings_Clone at h; refine aSq ?_; refine aRg ?_; intro _; refine dr ?_; refine aSq ?_; refine aRg ?_; intro _; obtain ⟨z1, u1, h⟩ := ob1_ok h; refine cl rfl (A_stringslite_Clone a0 u1) ?_; intro _; refine dr ?_; refine aRt ?_; intro _; obtain rfl := inj1 h; exact ca_0
def M_planfile_step_L1 (z12 : List ByteArray) : Nat → Int → (List ByteArray) → Option ((List ByteArray) ⊕ (GStep × Er))
  | 0, _, _ => none
  | k52 + 1, v50, v51 =>
    sel (decide (v50 < ((z12.length : Nat) : Int)))
     (ixn v51 ((v50).toNat) (fun y53 =>
       ob1 (M_lower y53) (fun z54 =>
        ixn v51 ((v50).toNat) (fun _ =>
         grd (0 ≤ v50) (grd (v50 < ((v51.length : Nat) : Int)) (ixn (v51.set ((v50).toNat) z54) ((v50).toNat) (fun y56 =>
          ob1 (M_formula_Name y56) (fun z57 =>
           sel (!z57)
            (some (.inr ({ At := 0, Name := (⟨#[]⟩ : ByteArray), Args := [] : GStep }, (Er.no 8))))
            (M_planfile_step_L1 z12 k52 (IntKind.i64.wrap (v50 + 1)) (v51.set ((v50).toNat) z54))))))))))
     (some (.inl v51))
def M_planfile_step (a0 : ByteArray) (a1 : Bool) : Option (GStep × Er) :=
  ob1 (sel a1
    (ob3 (M_planfile_clock a0) (fun z9 z10 z11 =>
      sel (!z11)
       (some (.inr ({ At := 0, Name := (⟨#[]⟩ : ByteArray), Args := [] : GStep }, (Er.no 2))))
       (some (.inl (z10, z9)))))
    (some (.inl (a0, 0))) : Option ((ByteArray × Int) ⊕ (GStep × Er)))
   (osum
   (fun (v4, v5) => ob2 (M_planfile_words v4) (fun z12 z13 =>
      sel (!z13)
       (some ({ At := 0, Name := (⟨#[]⟩ : ByteArray), Args := [] : GStep }, (Er.no 2)))
       (sel (decide (v5 > 1048576))
         (some ({ At := 0, Name := (⟨#[]⟩ : ByteArray), Args := [] : GStep }, (Er.no 1)))
         (ob1 (M_planfile_step_L1 z12 ((((z12.length : Nat) : Int)).toNat + 1) 0 z12 : Option ((List ByteArray) ⊕ (GStep × Er)))
           (osum
           (fun v34 => ixn v34 0 (fun y58 =>
              ob1 (M_strings_Clone y58) (fun z59 =>
               grd (v34.length - 1 ≤ 140737488355328) (grd (1 + (v34.length - 1) ≤ v34.length) (ob1 (M_cloneS ((v34.drop 1).take (v34.length - 1))) (fun z60 =>
                grd (0 < ((v34.length : Nat) : Int)) (grd (1 ≤ v34.length) (some ({ At := v5, Name := z59, Args := z60 : GStep }, Er.nil)))))))))
           (fun (r35, r36) => some (r35, r36)))))))
   (fun (r6, r7) => some (r6, r7)))
set_option maxHeartbeats 16000000 in
set_option maxRecDepth 100000 in
theorem A_planfile_step (a0 : ByteArray) (a1 : Bool) {r1 : GStep} {r2 : Er} (h : M_planfile_step a0 a1 = some (r1, r2)) : ACall cx 25 [.c (.string a0), .c (.bool a1)] (.tup [.agg [.c (.int .i64 r1.At), .c (.string r1.Name), .sl 1 (r1.Args.map cS)], eA r2]) := by
  refine aOf Tryd.func25 rfl (by decide) rfl (Nat.le_of_ble_eq_true rfl) ?_; intro _; unfold M_planfile_step at h; refine aSq ?_; refine aRg ?_; intro _; refine dr ?_; refine aSq ?_; refine aRg ?_; intro _; refine dr ?_; obtain ⟨o1, h, hK2⟩ := ob1_ok h; refine awp_cut (α := ByteArray × Int) (fun (v4, v5) => mkS 70 [(0, .c (.string v4)), (4, .ptr 4 0 0 0), (6, .c (.int .i64 v5))] [(4, ⟨37, 3, true, [[.c (.int .i64 0), .c (.string (⟨#[]⟩ : ByteArray)), .c (.slice none 0 0)]]⟩)]) (fun v => o1 = (.inl v)) ?_ ?_
  · refine aSq ?_; refine aRg ?_; intro _; refine dr ?_; refine aCd ?_; intro _; refine spl h (fun c3 h => ?_) (fun c3 h => ?_)
    · refine aSq ?_; refine aRg ?_; intro _; obtain ⟨z9, z10, z11, u4, h⟩ := ob3_ok h; refine cl rfl (A_planfile_clock a0 u4) ?_; intro _; refine dr ?_; refine aSq ?_; refine aSq ?_; refine aRg ?_; intro _; refine dr ?_; refine aCd ?_; intro _; refine spl h (fun c5 h => ?_) (fun c5 h => ?_)
      · refine aSq ?_; refine aRg ?_; intro _; refine dr ?_; refine aRt ?_; have j6 := Option.some.inj h; subst j6; replace h := (osum_r hK2); intro _; obtain ⟨rfl, rfl⟩ := inj2 h; exact ca_0
      · refine aSk ?_; refine aRg ?_; intro _; refine dr ?_; refine ⟨(z10, z9), (Option.some.inj h).symm, ?_⟩; exact ca_0
    · refine aSk ?_; refine ⟨(a0, 0), (Option.some.inj h).symm, ?_⟩; exact ca_0
  · rintro ⟨v4, v5⟩ ho; have ho := ho.symm; subst ho; intro _; replace h := (osum_l hK2); refine aSq ?_; refine aRg ?_; intro _; obtain ⟨z12, z13, u7, h⟩ := ob2_ok h; refine clg [(0, 28)] [] [] [(28, ⟨2, some ⟨9, 1, false, z12.map cS⟩⟩)] (.tup [.own 28 2 0 z12.length, .c (.bool z13)]) rfl rfl (A_planfile_words v4 u7) ?_; intro _; refine dr ?_; refine aSq ?_; refine aSq ?_; refine aRg ?_; intro _; refine dr ?_; refine aCd ?_; intro _; refine spl h (fun c8 h => ?_) (fun c8 h => ?_)
    · refine aSq ?_; refine aRg ?_; intro _; refine dr ?_; refine aRt ?_; intro _; obtain ⟨rfl, rfl⟩ := inj2 h; exact ca_0
    · refine aSk ?_; refine aSq ?_; refine aSq ?_; refine aRg ?_; intro _; refine dr ?_; refine aCd ?_; intro _; refine spl h (fun c9 h => ?_) (fun c9 h => ?_)
      · refine aSq ?_; refine aRg ?_; intro _; refine dr ?_; refine aRt ?_; intro _; obtain ⟨rfl, rfl⟩ := inj2 h; exact ca_0
      · refine aSk ?_; obtain ⟨o10, h, hK11⟩ := ob1_ok h; refine awp_cut (α := List ByteArray) (fun v34 => mkS 70 [(4, .ptr 4 0 0 0), (6, .c (.int .i64 v5)), (10, .own 28 0 0 v34.length)] [(4, ⟨37, 3, true, [[.c (.int .i64 0), .c (.string (⟨#[]⟩ : ByteArray)), .c (.slice none 0 0)]]⟩), (28, ⟨9, 1, false, v34.map cS⟩)]) (fun v => o10 = (.inl v)) ?_ ?_
        · refine aSq ?_; refine aRg ?_; intro _; refine dr ?_; refine aBk ?_; refine awp_loop (α := Nat × Int × (List ByteArray)) (fun x => mkS 70 [(4, .ptr 4 0 0 0), (6, .c (.int .i64 v5)), (10, .own 28 0 0 x.2.2.length), (40, .c (.int .i64 ((z12.length : Nat) : Int))), (41, .c (.int .i64 x.2.1))] [(4, ⟨37, 3, true, [[.c (.int .i64 0), .c (.string (⟨#[]⟩ : ByteArray)), .c (.slice none 0 0)]]⟩), (28, ⟨9, 1, false, x.2.2.map cS⟩)]) (fun x => M_planfile_step_L1 z12 x.1 x.2.1 x.2.2 = some o10) (fun x => x.1) ((((z12.length : Nat) : Int)).toNat + 1, 0, z12) h ?_ ?_
          · exact ca_0
          · intro x12 h; intro _; obtain ⟨k52, m13, h⟩ := succ_of (f := fun n => M_planfile_step_L1 z12 n x12.2.1 x12.2.2) rfl h; replace h : M_planfile_step_L1 z12 (k52 + 1) x12.2.1 x12.2.2 = some o10 := h; rw [M_planfile_step_L1] at h; refine aSq ?_; refine aRg ?_; intro _; refine dr ?_; refine aSq ?_; refine aCd ?_; intro _; refine spl h (fun c14 h => ?_) (fun c14 h => ?_)
            · refine aSk ?_; refine aSq ?_; refine aBk ?_; refine aSq ?_; refine aRg ?_; intro _; refine dr ?_; refine aSq ?_; refine aRg ?_; intro _; obtain ⟨y53, w15, h⟩ := ixn_ok h; refine Exists.intro (cS y53) (And.intro (by first | exact map_at' w15 | (have w := map_at' (f := cS) w15; simpa [cS] using w)) ?_); intro _; obtain ⟨z54, u16, h⟩ := ob1_ok h; refine cl rfl (A_lower y53 u16) ?_; intro _; obtain ⟨y55, w17, h⟩ := ixn_ok h; refine Exists.intro (cS y55) (And.intro (by first | exact map_at' w17 | (have w := map_at' (f := cS) w17; simpa [cS] using w)) ?_); intro _; obtain ⟨q18, h⟩ := grd_ok h; obtain ⟨q19, h⟩ := grd_ok h; refine pr ?_; refine pr ?_; refine pr ?_; refine pr ?_; refine dr ?_; refine aSq ?_; refine aRg ?_; intro _; obtain ⟨y56, w20, h⟩ := ixn_ok h; refine Exists.intro (cS y56) (And.intro (by first | exact map_at' w20 | (have w := map_at' (f := cS) w20; simpa [cS] using w)) ?_); intro _; obtain ⟨z57, u21, h⟩ := ob1_ok h; refine cl rfl (A_formula_Name y56 u21) ?_; intro _; refine pr ?_; refine pr ?_; refine dr ?_; refine aCd ?_; intro _; refine spl h (fun c22 h => ?_) (fun c22 h => ?_)
              · refine aSq ?_; refine aRg ?_; intro _; refine dr ?_; refine aRt ?_; have j23 := Option.some.inj h; subst j23; replace h := (osum_r hK11); intro _; obtain ⟨rfl, rfl⟩ := inj2 h; exact ca_0
              · refine aSk ?_; refine aRg ?_; intro _; refine dr ?_; refine ⟨(k52, (IntKind.i64.wrap (x12.2.1 + 1)), (x12.2.2.set ((x12.2.1).toNat) z54)), h, ltS m13, ?_⟩; exact ca_0
            · refine aEx ?_; refine ⟨x12.2.2, (Option.some.inj h).symm, ?_⟩; exact ca_0
        · rintro v34 ho; have ho := ho.symm; subst ho; intro _; replace h := (osum_l hK11); refine aSq ?_; refine aRg ?_; intro _; obtain ⟨y58, w24, h⟩ := ixn_ok h; refine Exists.intro (cS y58) (And.intro (by first | exact map_at' w24 | (have w := map_at' (f := cS) w24; simpa [cS] using w)) ?_); intro _; obtain ⟨z59, u25, h⟩ := ob1_ok h; refine cl rfl (A_strings_Clone y58 u25) ?_; intro _; obtain ⟨q26, h⟩ := grd_ok h; obtain ⟨q27, h⟩ := grd_ok h; obtain ⟨z60, u28, h⟩ := ob1_ok h; refine clf [(28, ⟨1, none⟩)] rfl rfl (A_cloneS ((v34.drop 1).take (v34.length - 1)) u28) ?_; intro _; obtain ⟨q29, h⟩ := grd_ok h; obtain ⟨q30, h⟩ := grd_ok h; refine pr ?_; refine pr ?_; refine pr ?_; refine pr ?_; refine pr ?_; refine dr ?_; refine aRt ?_; intro _; obtain ⟨rfl, rfl⟩ := inj2 h; exact ca_0
def M_planfile_Parse_L1 (a1 : Bool) (z1 : List ByteArray) : Nat → Int → (List GStep) → Option ((List GStep) × Int × Er)
  | 0, _, _ => none
  | k18 + 1, v16, v17 =>
    sel (decide (v16 < ((z1.map cS).length : Int)))
     (ix z1 v16 (fun y19 =>
       ob1 (M_strings_Trim y19 (⟨#[32, 9, 13]⟩ : ByteArray)) (fun z20 =>
        ob1 (sel (z20.toList == (⟨#[]⟩ : ByteArray).toList)
          (some (.inr ()))
          (grd (0 < (z20.size : Int)) (sel ((byt z20 0) == 59)
            (some (.inr ()))
            (some (.inl ())))) : Option (Unit ⊕ Unit))
         (osum
         (fun _ => ob2 (M_planfile_step z20 a1) (fun z22 z23 =>
            erM z23
             (grd ((v17.length + 1) * 48 ≤ 140737488355328) (M_planfile_Parse_L1 a1 z1 k18 (IntKind.i64.wrap (v16 + 1)) (v17 ++ [z22])))
             (fun e24 => some ([], (IntKind.i64.wrap (v16 + 1)), (Er.no e24)))))
         (fun _ => M_planfile_Parse_L1 a1 z1 k18 (IntKind.i64.wrap (v16 + 1)) v17)))))
     (grd (v17.length ≤ 140737488355328) (some (v17, 0, Er.nil)))
def M_planfile_Parse (a0 : ByteArray) (a1 : Bool) : Option ((List GStep) × Int × Er) :=
  sel (decide ((a0.size : Int) > 65536))
   (some ([], 0, (Er.no 5)))
   (ob1 (M_strings_Split a0 (⟨#[10]⟩ : ByteArray)) (fun z1 =>
     M_planfile_Parse_L1 a1 z1 ((((z1.map cS).length : Int)).toNat + 1) 0 []))
set_option maxHeartbeats 16000000 in
set_option maxRecDepth 100000 in
theorem A_planfile_Parse (a0 : ByteArray) (a1 : Bool) {r1 : List GStep} {r2 : Int} {r3 : Er} (h : M_planfile_Parse a0 a1 = some (r1, r2, r3)) : ACall cx 11 [.c (.string a0), .c (.bool a1)] (.tup [.sl 3 (r1.map cGStep), .c (.int .i64 r2), eA r3]) := by
  refine aOf Tryd.func11 rfl (by decide) rfl (Nat.le_of_ble_eq_true rfl) ?_; intro _; unfold M_planfile_Parse at h; refine aSq ?_; refine aRg ?_; intro _; refine dr ?_; refine aSq ?_; refine aSq ?_; refine aRg ?_; intro _; refine dr ?_; refine aCd ?_; intro _; refine spl h (fun c1 h => ?_) (fun c1 h => ?_)
  · refine aSq ?_; refine aRg ?_; intro _; refine dr ?_; refine aRt ?_; intro _; obtain ⟨rfl, rfl, rfl⟩ := inj3 h; exact ca_0
  · refine aSk ?_; refine aSq ?_; refine aRg ?_; intro _; refine dr ?_; refine aSq ?_; refine aSq ?_; refine aRg ?_; intro _; obtain ⟨z1, u2, h⟩ := ob1_ok h; refine cl rfl (A_strings_Split a0 (⟨#[10]⟩ : ByteArray) u2) ?_; intro _; refine dr ?_; refine aBk ?_; refine awp_loop (α := Nat × Int × (List GStep)) (fun x => mkS 50 [(1, .c (.bool a1)), (7, .own 47 0 0 x.2.2.length), (17, .sl 1 (z1.map cS)), (18, .c (.int .i64 ((z1.map cS).length : Int))), (19, .c (.int .i64 x.2.1))] [(47, ⟨37, 3, false, x.2.2.map cGStep⟩)]) (fun x => M_planfile_Parse_L1 a1 z1 x.1 x.2.1 x.2.2 = some (r1, r2, r3)) (fun x => x.1) ((((z1.map cS).length : Int)).toNat + 1, 0, []) h ?_ ?_
    · exact ca_0
    · intro x3 h; intro _; obtain ⟨k18, m4, h⟩ := succ_of (f := fun n => M_planfile_Parse_L1 a1 z1 n x3.2.1 x3.2.2) rfl h; replace h : M_planfile_Parse_L1 a1 z1 (k18 + 1) x3.2.1 x3.2.2 = some (r1, r2, r3) := h; rw [M_planfile_Parse_L1] at h; refine aSq ?_; refine aRg ?_; intro _; refine dr ?_; refine aSq ?_; refine aCd ?_; intro _; refine spl h (fun c5 h => ?_) (fun c5 h => ?_)
      · refine aSk ?_; refine aSq ?_; refine aBk ?_; refine aSq ?_; refine aRg ?_; intro _; obtain ⟨y19, w6, q7, h⟩ := ix_ok h; refine Exists.intro (cS y19) (And.intro (map_at' w6) ?_); intro _; refine pr ?_; refine dr ?_; refine aSq ?_; refine aRg ?_; intro _; obtain ⟨z20, u8, h⟩ := ob1_ok h; refine cl rfl (A_strings_Trim y19 (⟨#[32, 9, 13]⟩ : ByteArray) u8) ?_; intro _; refine dr ?_; obtain ⟨o9, h, hK10⟩ := ob1_ok h; refine awp_cut (α := Unit) (fun _ => mkS 50 [(1, .c (.bool a1)), (7, .own 47 0 0 x3.2.2.length), (8, .c (.int .i64 x3.2.1)), (9, .c (.string z20)), (17, .sl 1 (z1.map cS)), (18, .c (.int .i64 ((z1.map cS).length : Int))), (19, .c (.int .i64 x3.2.1)), (29, .c (.string z20)), (30, .c (.int .u8 (byt z20 0))), (31, .c (.bool ((byt z20 0) == 59)))] [(47, ⟨37, 3, false, x3.2.2.map cGStep⟩)]) (fun v => o9 = (.inl v)) ?_ ?_
        · refine aSq ?_; refine aRg ?_; intro _; refine spf h (fun c11 h => ?_) (fun c11 h => ?_)
          · intro _; obtain ⟨q12, h⟩ := grd_ok h; refine pr ?_; refine pr ?_; refine dr ?_; refine aCd ?_; intro _; refine spl h (fun c13 h => ?_) (fun c13 h => ?_)
            · refine aEx ?_; have j14 := Option.some.inj h; subst j14; replace h := (osum_r hK10); refine aRg ?_; intro _; refine dr ?_; refine ⟨(k18, (IntKind.i64.wrap (x3.2.1 + 1)), x3.2.2), h, ltS m4, ?_⟩; exact ca_0
            · refine aSk ?_; refine ⟨(), (Option.some.inj h).symm, ?_⟩; exact ca_0
          · intro _; refine dr ?_; refine aCd ?_; intro _; refine litT ?_; refine aEx ?_; have j15 := Option.some.inj h; subst j15; replace h := (osum_r hK10); refine aRg ?_; intro _; refine dr ?_; refine ⟨(k18, (IntKind.i64.wrap (x3.2.1 + 1)), x3.2.2), h, ltS m4, ?_⟩; exact ca_0
        · rintro _ ho; have ho := ho.symm; subst ho; intro _; replace h := (osum_l hK10); refine aSq ?_; refine aRg ?_; intro _; obtain ⟨z22, z23, u16, h⟩ := ob2_ok h; refine cl rfl (A_planfile_step z20 a1 u16) ?_; intro _; refine dr ?_; refine aSq ?_; refine aSq ?_; rcases z23 with _ | e24
          · replace h := erM_nil h; refine aRg ?_; intro _; refine dr ?_; refine aCd ?_; intro _; refine litF ?_; refine aSk ?_; refine aRg ?_; intro _; obtain ⟨q17, h⟩ := grd_ok h; refine pl ?_; refine pl ?_; refine And.intro (by first | with_reducible assumption | (show (x3.2.2.length + 1) * 48 ≤ 140737488355328; with_reducible assumption) | omega | (simp; omega)) ?_; refine pe ?_; refine dr ?_; refine aRg ?_; intro _; refine dr ?_; refine ⟨(k18, (IntKind.i64.wrap (x3.2.1 + 1)), (x3.2.2 ++ [z22])), h, ltS m4, ?_⟩; exact ca_0
          · replace h := erM_no h; refine aRg ?_; intro _; refine dr ?_; refine aCd ?_; intro _; refine litT ?_; refine aSq ?_; refine aRg ?_; intro _; refine dr ?_; refine aRt ?_; intro _; obtain ⟨rfl, rfl, rfl⟩ := inj3 h; exact ca_0
      · refine aEx ?_; refine aSq ?_; refine aRg ?_; intro _; refine dr ?_; refine aRt ?_; obtain ⟨q18, h⟩ := grd_ok h; intro _; obtain ⟨rfl, rfl, rfl⟩ := inj3 h; exact ca_0
def M_b_Texts_L1 (a0 : List ByteArray) (a1 : List ByteArray) : Nat → Int → Option (Bool)
  | 0, _ => none
  | k7 + 1, v6 =>
    sel (decide (v6 < ((a0.map cS).length : Int)))
     (ix a0 v6 (fun y8 =>
       ix a1 v6 (fun y9 =>
        sel (!(y8.toList == y9.toList))
         (some false)
         (M_b_Texts_L1 a0 a1 k7 (IntKind.i64.wrap (v6 + 1))))))
     (some true)
def M_b_Texts (a0 : List ByteArray) (a1 : List ByteArray) : Option (Bool) :=
  sel (((a0.map cS).length : Int) != ((a1.map cS).length : Int))
   (some false)
   (M_b_Texts_L1 a0 a1 ((((a0.map cS).length : Int)).toNat + 1) 0)
set_option maxHeartbeats 16000000 in
set_option maxRecDepth 100000 in
theorem A_b_Texts (a0 : List ByteArray) (a1 : List ByteArray) {r1 : Bool} (h : M_b_Texts a0 a1 = some r1) : ACall cx 22 [.sl 1 (a0.map cS), .sl 1 (a1.map cS)] (.c (.bool r1)) := by
  refine aOf Tryd.func22 rfl (by decide) rfl (Nat.le_of_ble_eq_true rfl) ?_; intro _; unfold M_b_Texts at h; refine aSq ?_; refine aRg ?_; intro _; refine dr ?_; refine aSq ?_; refine aSq ?_; refine aRg ?_; intro _; refine dr ?_; refine aCd ?_; intro _; refine spl h (fun c1 h => ?_) (fun c1 h => ?_)
  · refine aSq ?_; refine aRg ?_; intro _; refine dr ?_; refine aRt ?_; intro _; obtain rfl := inj1 h; exact ca_0
  · refine aSk ?_; refine aSq ?_; refine aSq ?_; refine aRg ?_; intro _; refine dr ?_; refine aBk ?_; refine awp_loop (α := Nat × Int) (fun x => mkS 26 [(0, .sl 1 (a0.map cS)), (1, .sl 1 (a1.map cS)), (12, .c (.int .i64 ((a0.map cS).length : Int))), (13, .c (.int .i64 x.2))] []) (fun x => M_b_Texts_L1 a0 a1 x.1 x.2 = some r1) (fun x => x.1) ((((a0.map cS).length : Int)).toNat + 1, 0) h ?_ ?_
    · exact ca_0
    · intro x2 h; intro _; obtain ⟨k7, m3, h⟩ := succ_of (f := fun n => M_b_Texts_L1 a0 a1 n x2.2) rfl h; replace h : M_b_Texts_L1 a0 a1 (k7 + 1) x2.2 = some r1 := h; rw [M_b_Texts_L1] at h; refine aSq ?_; refine aRg ?_; intro _; refine dr ?_; refine aSq ?_; refine aCd ?_; intro _; refine spl h (fun c4 h => ?_) (fun c4 h => ?_)
      · refine aSk ?_; refine aSq ?_; refine aBk ?_; refine aSq ?_; refine aRg ?_; intro _; refine dr ?_; refine aSq ?_; refine aRg ?_; intro _; obtain ⟨y8, w5, q6, h⟩ := ix_ok h; refine Exists.intro (cS y8) (And.intro (map_at' w5) ?_); intro _; obtain ⟨y9, w7, q8, h⟩ := ix_ok h; refine Exists.intro (cS y9) (And.intro (map_at' w7) ?_); intro _; refine pr ?_; refine pr ?_; refine dr ?_; refine aCd ?_; intro _; refine spl h (fun c9 h => ?_) (fun c9 h => ?_)
        · refine aSq ?_; refine aRg ?_; intro _; refine dr ?_; refine aRt ?_; intro _; obtain rfl := inj1 h; exact ca_0
        · refine aSk ?_; refine aRg ?_; intro _; refine dr ?_; refine ⟨(k7, (IntKind.i64.wrap (x2.2 + 1))), h, ltS m3, ?_⟩; exact ca_0
      · refine aEx ?_; refine aSq ?_; refine aRg ?_; intro _; refine dr ?_; refine aRt ?_; intro _; obtain rfl := inj1 h; exact ca_0
def M_l13_awake : Option (Bool) :=
  ob3 (M_planfile_Parse (⟨#[40, 109, 111, 118, 101, 32, 97, 32, 98, 41]⟩ : ByteArray) false) (fun z1 _ z3 =>
   erM z3
    (sel (((z1.map cGStep).length : Int) == 1)
      (ix z1 0 (fun y5 =>
        sel (y5.Name.toList == (⟨#[109, 111, 118, 101]⟩ : ByteArray).toList)
         (ix z1 0 (fun y6 =>
           ob1 (M_b_Texts y6.Args [(⟨#[97]⟩ : ByteArray), (⟨#[98]⟩ : ByteArray)]) (fun z7 =>
            some z7)))
         (some false)))
      (some false))
    (fun _ => some false))
set_option maxHeartbeats 16000000 in
set_option maxRecDepth 100000 in
theorem A_l13_awake {r1 : Bool} (h : M_l13_awake = some r1) : ACall cx 10 [] (.c (.bool r1)) := by
  refine aOf Tryd.func10 rfl (by decide) rfl (Nat.le_of_ble_eq_true rfl) ?_; intro _; unfold M_l13_awake at h; refine aSq ?_; refine aRg ?_; intro _; refine dr ?_; refine aSq ?_; refine aRg ?_; intro _; obtain ⟨z1, z2, z3, u1, h⟩ := ob3_ok h; refine cl rfl (A_planfile_Parse (⟨#[40, 109, 111, 118, 101, 32, 97, 32, 98, 41]⟩ : ByteArray) false u1) ?_; intro _; refine dr ?_; refine aSq ?_; rcases z3 with _ | e4
  · replace h := erM_nil h; refine aRg ?_; intro _; refine litT ?_; intro _; refine spl h (fun c2 h => ?_) (fun c2 h => ?_)
    · intro _; obtain ⟨y5, w3, q4, h⟩ := ix_ok h; refine Exists.intro (cGStep y5) (And.intro (map_at' w3) ?_); intro _; refine spl h (fun c5 h => ?_) (fun c5 h => ?_)
      · intro _; obtain ⟨y6, w6, q7, h⟩ := ix_ok h; refine Exists.intro (cGStep y6) (And.intro (map_at' w6) ?_); intro _; obtain ⟨z7, u8, h⟩ := ob1_ok h; refine clb [28] rfl rfl (A_b_Texts y6.Args [(⟨#[97]⟩ : ByteArray), (⟨#[98]⟩ : ByteArray)] u8) ?_; intro _; refine pr ?_; refine pr ?_; refine dr ?_; refine aRt ?_; intro _; obtain rfl := inj1 h; exact ca_0
      · intro _; refine pr ?_; refine dr ?_; refine aRt ?_; intro _; obtain rfl := inj1 h; exact ca_0
    · intro _; refine dr ?_; refine aRt ?_; intro _; obtain rfl := inj1 h; exact ca_0
  · replace h := erM_no h; refine aRg ?_; intro _; refine litF ?_; intro _; refine dr ?_; refine aRt ?_; intro _; obtain rfl := inj1 h; exact ca_0
def M_l13_Same_L1 (a0 : List GStep) (a1 : List GStep) : Nat → Int → Option (Bool)
  | 0, _ => none
  | k17 + 1, v16 =>
    sel (decide (v16 < ((a0.map cGStep).length : Int)))
     (ix a0 v16 (fun y18 =>
       ix a1 v16 (fun y19 =>
        sel (y18.At != y19.At)
         (some false)
         (ix a0 v16 (fun y20 =>
           ix a1 v16 (fun y21 =>
            sel (!(y20.Name.toList == y21.Name.toList))
             (some false)
             (ix a0 v16 (fun y22 =>
               ix a1 v16 (fun y23 =>
                ob1 (M_b_Texts y22.Args y23.Args) (fun z24 =>
                 sel (!z24)
                  (some false)
                  (M_l13_Same_L1 a0 a1 k17 (IntKind.i64.wrap (v16 + 1)))))))))))))
     (some true)
def M_l13_Same (a0 : List GStep) (a1 : List GStep) : Option (Bool) :=
  sel (((a0.map cGStep).length : Int) != ((a1.map cGStep).length : Int))
   (some false)
   (M_l13_Same_L1 a0 a1 ((((a0.map cGStep).length : Int)).toNat + 1) 0)
set_option maxHeartbeats 16000000 in
set_option maxRecDepth 100000 in
theorem A_l13_Same (a0 : List GStep) (a1 : List GStep) {r1 : Bool} (h : M_l13_Same a0 a1 = some r1) : ACall cx 14 [.sl 3 (a0.map cGStep), .sl 3 (a1.map cGStep)] (.c (.bool r1)) := by
  refine aOf Tryd.func14 rfl (by decide) rfl (Nat.le_of_ble_eq_true rfl) ?_; intro _; unfold M_l13_Same at h; refine aSq ?_; refine aRg ?_; intro _; refine dr ?_; refine aSq ?_; refine aSq ?_; refine aRg ?_; intro _; refine dr ?_; refine aCd ?_; intro _; refine spl h (fun c1 h => ?_) (fun c1 h => ?_)
  · refine aSq ?_; refine aRg ?_; intro _; refine dr ?_; refine aRt ?_; intro _; obtain rfl := inj1 h; exact ca_0
  · refine aSk ?_; refine aSq ?_; refine aSq ?_; refine aRg ?_; intro _; refine dr ?_; refine aBk ?_; refine awp_loop (α := Nat × Int) (fun x => mkS 55 [(0, .sl 3 (a0.map cGStep)), (1, .sl 3 (a1.map cGStep)), (12, .c (.int .i64 ((a0.map cGStep).length : Int))), (13, .c (.int .i64 x.2))] []) (fun x => M_l13_Same_L1 a0 a1 x.1 x.2 = some r1) (fun x => x.1) ((((a0.map cGStep).length : Int)).toNat + 1, 0) h ?_ ?_
    · exact ca_0
    · intro x2 h; intro _; obtain ⟨k17, m3, h⟩ := succ_of (f := fun n => M_l13_Same_L1 a0 a1 n x2.2) rfl h; replace h : M_l13_Same_L1 a0 a1 (k17 + 1) x2.2 = some r1 := h; rw [M_l13_Same_L1] at h; refine aSq ?_; refine aRg ?_; intro _; refine dr ?_; refine aSq ?_; refine aCd ?_; intro _; refine spl h (fun c4 h => ?_) (fun c4 h => ?_)
      · refine aSk ?_; refine aSq ?_; refine aBk ?_; refine aSq ?_; refine aRg ?_; intro _; refine dr ?_; refine aSq ?_; refine aRg ?_; intro _; obtain ⟨y18, w5, q6, h⟩ := ix_ok h; refine Exists.intro (cGStep y18) (And.intro (map_at' w5) ?_); intro _; obtain ⟨y19, w7, q8, h⟩ := ix_ok h; refine Exists.intro (cGStep y19) (And.intro (map_at' w7) ?_); intro _; refine spf h (fun c9 h => ?_) (fun c9 h => ?_)
        · intro _; obtain ⟨y20, w10, q11, h⟩ := ix_ok h; refine Exists.intro (cGStep y20) (And.intro (map_at' w10) ?_); intro _; obtain ⟨y21, w12, q13, h⟩ := ix_ok h; refine Exists.intro (cGStep y21) (And.intro (map_at' w12) ?_); intro _; refine spf h (fun c14 h => ?_) (fun c14 h => ?_)
          · intro _; obtain ⟨y22, w15, q16, h⟩ := ix_ok h; refine Exists.intro (cGStep y22) (And.intro (map_at' w15) ?_); intro _; obtain ⟨y23, w17, q18, h⟩ := ix_ok h; refine Exists.intro (cGStep y23) (And.intro (map_at' w17) ?_); intro _; obtain ⟨z24, u19, h⟩ := ob1_ok h; refine cl rfl (A_b_Texts y22.Args y23.Args u19) ?_; intro _; refine pr ?_; refine pr ?_; refine pr ?_; refine pr ?_; refine pr ?_; refine pr ?_; refine dr ?_; refine aCd ?_; intro _; refine spl h (fun c20 h => ?_) (fun c20 h => ?_)
            · refine aSq ?_; refine aRg ?_; intro _; refine dr ?_; refine aRt ?_; intro _; obtain rfl := inj1 h; exact ca_0
            · refine aSk ?_; refine aRg ?_; intro _; refine dr ?_; refine ⟨(k17, (IntKind.i64.wrap (x2.2 + 1))), h, ltS m3, ?_⟩; exact ca_0
          · intro _; refine pr ?_; refine pr ?_; refine pr ?_; refine pr ?_; refine dr ?_; refine aCd ?_; intro _; refine litT ?_; refine aSq ?_; refine aRg ?_; intro _; refine dr ?_; refine aRt ?_; intro _; obtain rfl := inj1 h; exact ca_0
        · intro _; refine pr ?_; refine pr ?_; refine dr ?_; refine aCd ?_; intro _; refine litT ?_; refine aSq ?_; refine aRg ?_; intro _; refine dr ?_; refine aRt ?_; intro _; obtain rfl := inj1 h; exact ca_0
      · refine aEx ?_; refine aSq ?_; refine aRg ?_; intro _; refine dr ?_; refine aRt ?_; intro _; obtain rfl := inj1 h; exact ca_0
end Go.Proofs.YtljekaadbabhkaaDoor.Am
/- strings.Builder at worlds: copyCheck, WriteString, Len, String, with exact frames (turned from the shelf's proofs to this program's numbers). -/
namespace Go.Proofs.YtljekaadbabhkaaDoor
open Go.RowKit

theorem sizeBuilder0 : (Tryd.prog.info? 68).map (·.size) = some 2 := by kernel_rfl
theorem infoByte0 : (Tryd.prog.info? 5).map (fun i => (i.zero, i.size, i.bytes)) = some (some (.int .u8 0), 1, 1) := by kernel_rfl
theorem liesB (c : Nat) (h : 1 ≤ c) : liesAt Tryd.prog Tryd.prog.depth 68 c 0 68 1 = true := by
  obtain ⟨d, hd⟩ : ∃ d, Tryd.prog.depth = d + 1 := ⟨Tryd.prog.depth - 1, by kernel_rfl⟩
  have h1 : sameLayout Tryd.prog Tryd.prog.depth 68 68 = true := by kernel_rfl
  have hc : Tryd.prog.cellsOf 68 = 2 := by kernel_rfl
  have h2 : rowAt Tryd.prog (fun x => sameLayout Tryd.prog Tryd.prog.depth x 68) (d + 1) 68 c 0 1 = true := by
    rw [rowAt]
    simp only [hc, h1]
    have : decide (0 / 2 + 1 ≤ c) = true := decide_eq_true (by omega)
    simp [h]
  rw [show liesAt Tryd.prog Tryd.prog.depth 68 c 0 68 1 = liesAt Tryd.prog (d + 1) 68 c 0 68 1 by rw [hd], liesAt, hd]
  rw [hd] at h2
  simp [h2]

/-- the builder's block: what it holds, and where its bytes lie -/
structure BAt (b : Nat) (p v : Value) (w : World) : Prop where
  blk : ∃ arr, w.heap[b]? = some (.cells arr 68 (0, 0)) ∧ 2 ≤ arr.size ∧ arr[0]? = some p ∧ arr[1]? = some v
  adr : p = .pointer none ∨ p = .pointer (some ⟨b, 0, none⟩)
theorem BAt.cell0 {b : Nat} {p v : Value} {w : World} (h : BAt b p v w) : w.cell? ⟨b, 0, none⟩ = some p := by
  obtain ⟨arr, h1, _, h2, _⟩ := h.blk
  rw [Lib.cell_of_heap h1, h2]
theorem BAt.cell1 {b : Nat} {p v : Value} {w : World} (h : BAt b p v w) : w.cell? ⟨b, 1, none⟩ = some v := by
  obtain ⟨arr, h1, _, _, h2⟩ := h.blk
  rw [Lib.cell_of_heap h1, h2]
theorem BAt.lt {b : Nat} {p v : Value} {w : World} (h : BAt b p v w) : b < w.heap.size := by
  obtain ⟨arr, h1, _⟩ := h.blk
  rcases Nat.lt_or_ge b w.heap.size with h' | h'
  · exact h'
  · simp [Array.getElem?_eq_none h'] at h1
/-- only these blocks may differ -/
structure Oth (w w' : World) (X : Nat → Prop) : Prop where
  os : w'.os = w.os
  tape : w'.tape = w.tape
  output : w'.output = w.output
  size : w.heap.size ≤ w'.heap.size
  block : ∀ i, i < w.heap.size → ¬ X i → w'.heap[i]? = w.heap[i]?
theorem Oth.refl (w : World) (X : Nat → Prop) : Oth w w X := ⟨rfl, rfl, rfl, Nat.le_refl _, fun _ _ _ => rfl⟩
theorem Oth.trans {a b c : World} {X : Nat → Prop} (h : Oth a b X) (k : Oth b c X) : Oth a c X :=
  ⟨k.os.trans h.os, k.tape.trans h.tape, k.output.trans h.output, Nat.le_trans h.size k.size, fun i hi hx => (k.block i (Nat.lt_of_lt_of_le hi h.size) hx).trans (h.block i hi hx)⟩
theorem Oth.setC (w : World) {X : Nat → Prop} (p : Addr) (u : Value) (h : X p.block) : Oth w (w.setCell p u) X :=
  ⟨rfl, rfl, rfl, by simp [World.setCell], fun i _ hx => Below.heap_setCell w p u i (fun e => hx (by rw [e]; exact h))⟩
theorem setC_arr {w : World} {b k : Nat} {arr : Array Value} {T : TypeId} (u : Value) (h : w.heap[b]? = some (.cells arr T (0, 0))) : ∃ arr', (w.setCell ⟨b, k, none⟩ u).heap[b]? = some (.cells arr' T (0, 0)) ∧ arr'.size = arr.size ∧ (k < arr.size → arr'[k]? = some u) ∧ ∀ j, j ≠ k → arr'[j]? = arr[j]? := by
  refine ⟨arr.setIfInBounds k u, ?_, by simp, fun hk => by simp [hk], fun j hj => by simp [Array.getElem?_setIfInBounds, Ne.symm hj]⟩
  simp [World.setCell, Array.getElem?_modify, h]

set_option maxHeartbeats 1000000 in
set_option maxRecDepth 100000 in
theorem copyCheck_at (b : Nat) (p v : Value) (w : World) (h : BAt b p v w) :
    Calls Tryd.prog 63 #[.pointer (some ⟨b, 0, none⟩)] w fun e w' => e = .returned (.tuple #[]) ∧ (BAt b (.pointer (some ⟨b, 0, none⟩)) v w' ∧ Oth w w' (fun i => i = b) ∧ w'.heap.size = w.heap.size ∧ w'.shape? b = w.shape? b) := by
  obtain ⟨j, hj, hjs⟩ := Option.map_eq_some_iff.1 sizeBuilder0
  have h0 := h.cell0
  obtain ⟨arr, h1, h2, h3, h4⟩ := h.blk
  rcases h.adr with rfl | rfl
  · have hsh : w.shape? b = some (68, arr.size) := by simp [World.shape?, h1]
    have hfz : w.frozen? ⟨b, 0, none⟩ = false := Lib.frozen_of_heap h1 0
    have hl : liesAt Tryd.prog Tryd.prog.depth 68 (arr.size / Tryd.prog.cellsOf 68) 0 68 1 = true := by
      rw [show Tryd.prog.cellsOf 68 = 2 by kernel_rfl]
      exact liesB _ (by omega)
    have hpos : 0 < arr.size := by omega
    go_enter Tryd.func63, Tryd.ntmps63
    go_wp2
    rw [Lib.run_to_unsafe w ⟨b, 0, none⟩ Tryd.underlying66 Tryd.underlying105 hj (by rw [hjs]; decide) hsh hpos]
    simp only [Result.andThen]
    rw [Oper.upon_value]
    go_wp2
    rw [run_callFunc_extern Tryd.func84 (by kernel_rfl) (by kernel_rfl) (by kernel_rfl) (e := Extern.AbiNoEscape.same) (by kernel_rfl)]
    rw [Lib.run_noEscape]
    simp only [Result.andThen]
    rw [Oper.upon_value]
    go_wp2
    rw [Lib.run_from_unsafe w ⟨b, 0, none⟩ Tryd.underlying105 Tryd.underlying66 hj hsh hl]
    simp only [Result.andThen]
    rw [Oper.upon_value]
    go_wp2
    go_end0
    obtain ⟨arr', a1, a2, a3, a4⟩ := setC_arr (k := 0) (.pointer (some ⟨b, 0, none⟩)) h1
    exact ⟨rfl, ⟨⟨arr', a1, by omega, a3 hpos, by rw [a4 1 (by decide)]; exact h4⟩, .inr rfl⟩, Oth.setC w _ _ rfl, by simp [World.setCell], by simp [World.shape?, a1, a2, h1]⟩
  · go_enter Tryd.func63, Tryd.ntmps63
    go_wp2
    rw [Lib.run_neq_ptr_same w _ Tryd.underlying66 hj]
    go_wp2
    go_end0
    exact ⟨rfl, h, Oth.refl _ _, rfl, rfl⟩

section
variable {P : Program} (w : World)
/-- the append of a string's bytes, and where the bytes lie then -/
theorem append_str2 (t u ty e : TypeId) (i : TypeInfo) (ht : P.underlying t = some (.slice e)) (hu : P.underlying u = some .string) (hi : P.info? e = some i) (hz : i.zero = some (.int .u8 0))
    (hsize : i.size = 1) (hby : i.bytes = 1) (v : Value) (n : Nat) (xs : List Value) (hown : w.ownsRow 0 e 1 v n xs) (s : ByteArray) (h63 : n + s.size ≤ maxLen) (hbytes : n + s.size ≤ 140737488355328) :
    ∃ v' w', (Builtin.append_ #[t, u] ty #[v, .string s]).run P w = .ok v' w' ∧ w'.ownsRow 0 e 1 v' (n + s.size) (xs ++ Lib.strCells s) ∧ w.grownBy w' v.ownBlock ∧ (v'.ownBlock = v.ownBlock ∨ ∀ g, v'.ownBlock = some g → w.heap.size ≤ g) := by
  obtain ⟨v', w', hr, h2, h3, h4⟩ := Lib.run_append_own_string (P := P) w 0 t u ty e i ht hu hi hz hsize hby v n xs hown s h63 hbytes (Nat.zero_le _)
  refine ⟨v', w', hr, h2, h3, ?_⟩
  rcases hown.2 with ⟨rfl, rfl⟩ | ⟨g, cap, cur, rfl, hbg, hg, hnc, hcm, hcs, htake⟩
  · obtain ⟨v2, w2, hr2, k2, _⟩ := Lib.run_append_own_string (P := P) w w.heap.size t u ty e i ht hu hi hz hsize hby _ 0 xs ⟨hown.1, .inl ⟨rfl, rfl⟩⟩ s h63 hbytes (Nat.le_refl _)
    rw [hr] at hr2
    injection hr2 with e1 e2
    subst e1 e2
    refine .inr (fun g hg => ?_)
    rcases k2.2 with ⟨e, _⟩ | ⟨g', cap, cur, e, hb, _⟩
    · subst e; cases hg
    · subst e
      have : g' = g := by simpa [Value.ownBlock] using hg
      omega
  · have hcs' : cur.size = cap := by simpa using hcs
    by_cases hroom : n + s.size ≤ cap
    · have hr2 := Lib.run_append_room_string (P := P) w t u ty e i ht hu hi hsize g n cap cur hg s hroom (by omega)
      rw [hr] at hr2
      injection hr2 with e1 e2
      subst e1
      exact .inl rfl
    · have hxl : xs.length = n := by simpa using hown.1
      have holds : ∀ j u, xs[j]? = some u → w.cell? ((⟨g, 0, none⟩ : Addr).add j) = some u := hown.cells (g := g) rfl
      have h63' : ((n + s.size : Nat) : Int) ≤ 9223372036854775807 := by simp only [maxLen] at h63; omega
      have hr2 := Lib.run_append_grow_string (P := P) w t u ty e i (.int .u8 0) ht hu hi hz ⟨g, 0, none⟩ n cap xs (by rw [hsize]; simpa using hxl) holds s (by omega) h63' (by rw [hby]; exact growslice_fits (by omega) (by omega))
      rw [hr] at hr2
      injection hr2 with e1 e2
      subst e1
      refine .inr (fun g' hg' => ?_)
      have : w.heap.size = g' := by simpa [Value.ownBlock] using hg'
      omega
theorem wpList_append_str2 {ops : Array Oper} {rest : List Oper} {o : Oper} {a : Act} {Q : Exit → Act → World → Prop} (hgd : o.guard = none) (sl x : Operand) (t u : TypeId)
    (ho : o.op = .call { callee := .builtin .append, args := #[sl, x], argTypes := #[t, u] })
    (e : TypeId) (i : TypeInfo) (ht : P.underlying t = some (.slice e)) (hu : P.underlying u = some .string) (hi : P.info? e = some i) (hz : i.zero = some (.int .u8 0))
    (hsize : i.size = 1) (hby : i.bytes = 1)
    (v : Value) (n : Nat) (xs : List Value) (hs : a.eval sl = v) (hown : w.ownsRow 0 e 1 v n xs) (s : ByteArray) (hx : a.eval x = .string s)
    (h63 : n + s.size ≤ maxLen) (hbytes : n + s.size ≤ 140737488355328)
    (h : ∀ v' w', w'.ownsRow 0 e 1 v' (n + s.size) (xs ++ Lib.strCells s) → w.grownBy w' v.ownBlock → (v'.ownBlock = v.ownBlock ∨ ∀ g, v'.ownBlock = some g → w.heap.size ≤ g) → wpList P ops Q rest (a.put o.dst v') w') : wpList P ops Q (o :: rest) a w := by
  refine wpList_plain hgd fun K hK => ?_
  obtain ⟨v', w', hr, h2, h3, h4⟩ := append_str2 (P := P) w t u o.type e i ht hu hi hz hsize hby v n xs hown s h63 hbytes
  unfold Oper.wp execOp
  simp only [ho, resolve, invoke, builtin, Sem.run_bind, Sem.run_pure, Result.andThen_ok, List.map_toArray, List.map_cons, List.map_nil, hs, hx, hr]
  exact hK _ _ (h v' w' h2 h3 h4)
end
theorem own_oth {w w' : World} {X : Nat → Prop} {e : TypeId} {size n : Nat} {v : Value} {xs : List Value} (h : w.ownsRow 0 e size v n xs) (k : Oth w w' X) (hx : ∀ g, v.ownBlock = some g → ¬ X g) : w'.ownsRow 0 e size v n xs := by
  refine ⟨h.1, ?_⟩
  rcases h.2 with h | ⟨g, cap, cur, rfl, hb, hg, r⟩
  · exact .inl h
  · have hlt : g < w.heap.size := by
      rcases Nat.lt_or_ge g w.heap.size with h' | h'
      · exact h'
      · simp [Array.getElem?_eq_none h'] at hg
    exact .inr ⟨g, cap, cur, rfl, hb, by rw [k.block g hlt (hx g rfl)]; exact hg, r⟩

set_option maxHeartbeats 1000000 in
set_option maxRecDepth 100000 in
theorem writeString_at (b : Nat) (p v : Value) (n : Nat) (bs : List Value) (s : ByteArray) (w : World) (h : BAt b p v w) (hown : w.ownsRow 0 5 1 v n bs) (hlen : n + s.size ≤ 140737488355328) :
    Calls Tryd.prog 36 #[.pointer (some ⟨b, 0, none⟩), .string s] w fun e w' => e = .returned (.tuple #[.int .i64 s.size, .nilIface]) ∧ ∃ v', BAt b (.pointer (some ⟨b, 0, none⟩)) v' w' ∧ w'.ownsRow 0 5 1 v' (n + s.size) (bs ++ Lib.strCells s) ∧
      Oth w w' (fun i => i = b ∨ v.ownBlock = some i) ∧ (v'.ownBlock = v.ownBlock ∨ ∀ g, v'.ownBlock = some g → w.heap.size ≤ g) ∧ w'.shape? b = w.shape? b := by
  obtain ⟨i0, hi, hz0, hz1, hz2⟩ := info_parts infoByte0
  obtain ⟨arr0, e1, _⟩ := h.blk
  have hne : v.ownBlock ≠ some b := Lib.ownBlock_ne hown e1 (by decide)
  have hsh0 : w.shape? b = some (68, arr0.size) := by simp [World.shape?, e1]
  go_enter Tryd.func36, Tryd.ntmps36
  go_wp2_with (go_at_call 63; refine (copyCheck_at b p v _ h).mono ?_)
  rintro e w1 ⟨rfl, h1, ho1, hs1, hs2⟩
  have hown1 : w1.ownsRow 0 5 1 v n bs := own_oth hown ho1 (fun g hg e => hne (by rw [hg, e]))
  have c1 := h1.cell1
  go_wp2_with (at_builtin; refine wpList_append_str2 _ rfl _ _ 43 9 rfl 5 i0 Tryd.underlying43 Tryd.underlying9 hi hz0 hz1 hz2 _ _ _ rfl hown1 s rfl ?c3 ?c4 ?_)
  case c3 => unfold maxLen; omega
  case c4 => omega
  intro v' w2 hown' hgrow hnew
  obtain ⟨arr1, b1, b2, b3, b4⟩ := h1.blk
  have hlt := h1.lt
  have hb2 : w2.heap[b]? = some (.cells arr1 68 (0, 0)) := by
    rw [hgrow.block b hlt (fun e => hne e.symm)]
    exact b1
  have d0 : w2.cell? ⟨b, 0, none⟩ = some (.pointer (some ⟨b, 0, none⟩)) := by rw [Lib.cell_of_heap hb2]; exact b3
  have d1 : w2.cell? ⟨b, 1, none⟩ = some v := by rw [Lib.cell_of_heap hb2]; exact b4
  have f1 : w2.frozen? ⟨b, 1, none⟩ = false := Lib.frozen_of_heap hb2 1
  have hsz := hgrow.size
  have ho2 : Oth w w2 (fun i => i = b ∨ v.ownBlock = some i) := ⟨hgrow.os.trans ho1.os, hgrow.tape.trans ho1.tape, hgrow.output.trans ho1.output, by omega, fun i hi hx => (hgrow.block i (by omega) (fun e => hx (.inr e.symm))).trans (ho1.block i hi (fun e => hx (.inl e)))⟩
  have hne' : v'.ownBlock ≠ some b := Lib.ownBlock_ne hown' hb2 (by decide)
  obtain ⟨ao, n', cap, rfl⟩ : ∃ ao n' cap, v' = .slice ao n' cap := by
    rcases hown'.2 with ⟨hv, _⟩ | ⟨g, cap, cur, hv, _⟩
    · exact ⟨_, _, _, hv⟩
    · exact ⟨_, _, _, hv⟩
  generalize hvv : Value.slice ao n' cap = v' at hown' hnew hne'
  obtain ⟨arr2, a1, a2, a3, a4⟩ := setC_arr (k := 1) v' hb2
  have hfin : ∃ v'', BAt b (.pointer (some ⟨b, 0, none⟩)) v'' (w2.setCell ⟨b, 1, none⟩ v') ∧ (w2.setCell ⟨b, 1, none⟩ v').ownsRow 0 5 1 v'' (n + s.size) (bs ++ Lib.strCells s) ∧ Oth w (w2.setCell ⟨b, 1, none⟩ v') (fun i => i = b ∨ v.ownBlock = some i) ∧ (v''.ownBlock = v.ownBlock ∨ ∀ g, v''.ownBlock = some g → w.heap.size ≤ g) ∧ (w2.setCell ⟨b, 1, none⟩ v').shape? b = w.shape? b := by
    have hst := Oth.setC w2 (X := fun i => i = b ∨ v.ownBlock = some i) ⟨b, 1, none⟩ v' (.inl rfl)
    have hsz1 : arr1.size = arr0.size := by
      rw [hsh0] at hs2
      have q : w1.shape? b = some (68, arr1.size) := by simp [World.shape?, b1]
      rw [q] at hs2
      injection hs2 with hs2
      injection hs2
    refine ⟨v', ⟨⟨arr2, a1, by omega, by rw [a4 0 (by decide)]; exact b3, a3 (by omega)⟩, .inr rfl⟩, own_oth hown' (X := fun i => i = b) (Oth.setC w2 _ _ rfl) (fun g hg e => hne' (by rw [hg, e])), ho2.trans hst, ?_, ?_⟩
    · rcases hnew with e | e
      · exact .inl e
      · exact .inr (fun g hg => by have := e g hg; omega)
    · rw [hsh0]; simp [World.shape?, a1, a2, hsz1]
  clear hown' hnew hne' a1 a2 a3 a4
  subst hvv
  have HF := Lib.hid hfin
  clear hfin
  go_wp2
  go_ret2
  exact ⟨rfl, HF.out⟩

set_option maxHeartbeats 1000000 in
set_option maxRecDepth 100000 in
theorem len_at (b : Nat) (p v : Value) (n : Nat) (bs : List Value) (w : World) (h : BAt b p v w) (hown : w.ownsRow 0 5 1 v n bs) :
    Calls Tryd.prog 39 #[.pointer (some ⟨b, 0, none⟩)] w fun e w' => e = .returned (.int .i64 n) ∧ w' = w := by
  obtain ⟨ao, cap, rfl⟩ : ∃ ao cap, v = .slice ao n cap := by
    rcases hown.2 with ⟨hv, h0⟩ | ⟨g, cap, cur, hv, _⟩
    · exact ⟨none, 0, by rw [hv, h0]⟩
    · exact ⟨_, _, hv⟩
  have c1 := h.cell1
  go_enter Tryd.func39, Tryd.ntmps39
  go_wp2
  go_ret
  exact ⟨rfl, rfl⟩

theorem mixed0 : Tryd.prog.follows .mixedOrders = true := by kernel_rfl
set_option maxHeartbeats 2000000 in
set_option maxRecDepth 100000 in
theorem string_nil (b : Nat) (w : World) (hcell : w.cell? ⟨b, 1, none⟩ = some (.slice none 0 0)) :
    Calls Tryd.prog 40 #[.pointer (some ⟨b, 0, none⟩)] w fun e w' => e = .returned (.string ⟨#[]⟩) ∧ w' = w.drew := by
  have c1 : w.drew.cell? ⟨b, 1, none⟩ = some (.slice none 0 0) := hcell
  have hSD : (Builtin.unsafeSliceData_ #[43] 92 #[.slice none 0 0]).run Tryd.prog w.drew = .ok (.pointer none) w.drew := rfl
  have hUS : ∀ (W : World) (q : Option Addr), (Builtin.unsafeString_ #[92, 3] 9 #[.pointer q, .int .i64 0]).run Tryd.prog W = .ok (.string .empty) W := fun W q => Lib.run_unsafeString_none W _ _ _ q
  have mixed := mixed0
  clear hcell
  go_enter Tryd.func40, Tryd.ntmps40
  go_wp2
  go_region_o
  all_goals (go_wp2; go_ret; exact ⟨rfl, rfl⟩)
set_option maxHeartbeats 2000000 in
set_option maxRecDepth 100000 in
theorem string_noroom (b g sz : Nat) (w : World) (hlt : b < w.heap.size) (hcell : w.cell? ⟨b, 1, none⟩ = some (.slice (some ⟨g, 0, none⟩) 0 0)) (hsh : w.shape? g = some (5, sz)) :
    Calls Tryd.prog 40 #[.pointer (some ⟨b, 0, none⟩)] w fun e w' => e = .returned (.string ⟨#[]⟩) ∧ w' = w.drew.alloc (.view ⟨g, 0, none⟩ 5) := by
  have c1 : w.drew.cell? ⟨b, 1, none⟩ = some (.slice (some ⟨g, 0, none⟩) 0 0) := hcell
  have hSD : (Builtin.unsafeSliceData_ #[43] 92 #[.slice (some ⟨g, 0, none⟩) 0 0]).run Tryd.prog w.drew = .ok (.pointer (some ⟨w.drew.heap.size, 0, none⟩)) (w.drew.alloc (.view ⟨g, 0, none⟩ 5)) :=
    Lib.run_unsafeSliceData_zero w.drew _ _ 5 Tryd.underlying92 ⟨g, 0, none⟩ 0 (5, sz) hsh
  have hUS : ∀ (W : World) (q : Option Addr), (Builtin.unsafeString_ #[92, 3] 9 #[.pointer q, .int .i64 0]).run Tryd.prog W = .ok (.string .empty) W := fun W q => Lib.run_unsafeString_none W _ _ _ q
  have c2 : (w.drew.alloc (.view ⟨g, 0, none⟩ 5)).cell? ⟨b, 1, none⟩ = some (.slice (some ⟨g, 0, none⟩) 0 0) := by
    rw [← c1]
    exact World.cell?_of_block (Lib.alloc_old w.drew _ b hlt)
  have c3 : (w.alloc (.view ⟨g, 0, none⟩ 5)).drew.cell? ⟨b, 1, none⟩ = some (.slice (some ⟨g, 0, none⟩) 0 0) := c2
  have mixed := mixed0
  clear hsh
  go_enter Tryd.func40, Tryd.ntmps40
  go_wp2
  go_region_o
  all_goals (go_wp2; go_ret; exact ⟨rfl, rfl⟩)
set_option maxHeartbeats 2000000 in
set_option maxRecDepth 100000 in
theorem string_room (b g cap : Nat) (w : World) (hc0 : cap ≠ 0) (hcell : w.cell? ⟨b, 1, none⟩ = some (.slice (some ⟨g, 0, none⟩) 0 cap)) :
    Calls Tryd.prog 40 #[.pointer (some ⟨b, 0, none⟩)] w fun e w' => e = .returned (.string ⟨#[]⟩) ∧ w' = w.drew := by
  have c1 : w.drew.cell? ⟨b, 1, none⟩ = some (.slice (some ⟨g, 0, none⟩) 0 cap) := hcell
  have hSD : (Builtin.unsafeSliceData_ #[43] 92 #[.slice (some ⟨g, 0, none⟩) 0 cap]).run Tryd.prog w.drew = .ok (.pointer (some ⟨g, 0, none⟩)) w.drew :=
    Lib.run_unsafeSliceData_row _ _ _ _ _ _ hc0
  have hUS : ∀ (W : World) (q : Option Addr), (Builtin.unsafeString_ #[92, 3] 9 #[.pointer q, .int .i64 0]).run Tryd.prog W = .ok (.string .empty) W := fun W q => Lib.run_unsafeString_none W _ _ _ q
  have mixed := mixed0
  clear hc0 hcell
  go_enter Tryd.func40, Tryd.ntmps40
  go_wp2
  go_region_o
  all_goals (go_wp2; go_ret; exact ⟨rfl, rfl⟩)
set_option maxHeartbeats 2000000 in
set_option maxRecDepth 100000 in
theorem string_some (b g cap n : Nat) (str : ByteArray) (w : World) (hcell : w.cell? ⟨b, 1, none⟩ = some (.slice (some ⟨g, 0, none⟩) n cap)) (hSD : (Builtin.unsafeSliceData_ #[43] 92 #[.slice (some ⟨g, 0, none⟩) n cap]).run Tryd.prog w.drew = .ok (.pointer (some ⟨g, 0, none⟩)) w.drew)
    (hUS : (Builtin.unsafeString_ #[92, 3] 9 #[.pointer (some ⟨g, 0, none⟩), .int .i64 n]).run Tryd.prog w.drew = .ok (.string str) (w.drew.freeze ⟨g, 0, none⟩ n)) :
    Calls Tryd.prog 40 #[.pointer (some ⟨b, 0, none⟩)] w fun e w' => e = .returned (.string str) ∧ w' = w.drew.freeze ⟨g, 0, none⟩ n := by
  have c1 : w.drew.cell? ⟨b, 1, none⟩ = some (.slice (some ⟨g, 0, none⟩) n cap) := hcell
  have mixed := mixed0
  clear hcell
  go_enter Tryd.func40, Tryd.ntmps40
  go_wp2
  go_region_o
  all_goals (go_wp2; go_ret; exact ⟨rfl, rfl⟩)
theorem string_at (b : Nat) (p v : Value) (l : List UInt8) (w : World) (h : BAt b p v w) (hown : w.ownsRow 0 5 1 v l.length (Lib.byteCells l)) :
    Calls Tryd.prog 40 #[.pointer (some ⟨b, 0, none⟩)] w fun e w' => e = .returned (.string ⟨l.toArray⟩) ∧ Oth w w' (fun i => v.ownBlock = some i) := by
  have hcell1 := h.cell1
  have hdrew : ∀ X, Oth w w.drew X := fun X => ⟨rfl, rfl, rfl, Nat.le_refl _, fun _ _ _ => rfl⟩
  have hcb : Tryd.prog.cellsOf 5 = 1 := by kernel_rfl
  rcases hown.2 with ⟨rfl, h0⟩ | ⟨g, cap, cur, rfl, hbg, hg, hnc, hcm, hcs, htake⟩
  · obtain rfl : l = [] := List.length_eq_zero_iff.1 h0
    refine (string_nil b w hcell1).mono ?_
    rintro e w' ⟨rfl, rfl⟩
    exact ⟨rfl, hdrew _⟩
  · by_cases hl : l = []
    · subst hl
      by_cases hc0 : cap = 0
      · subst hc0
        refine (string_noroom b g cur.size w h.lt hcell1 (by simp [World.shape?, hg])).mono ?_
        rintro e w' ⟨rfl, rfl⟩
        exact ⟨rfl, rfl, rfl, rfl, by simp, fun i hi _ => Lib.alloc_old w.drew _ i hi⟩
      · refine (string_room b g cap w hc0 hcell1).mono ?_
        rintro e w' ⟨rfl, rfl⟩
        exact ⟨rfl, hdrew _⟩
    · have hl0 : l.length ≠ 0 := by simpa using hl
      have hSD : (Builtin.unsafeSliceData_ #[43] 92 #[.slice (some ⟨g, 0, none⟩) l.length cap]).run Tryd.prog w.drew = .ok (.pointer (some ⟨g, 0, none⟩)) w.drew :=
        Lib.run_unsafeSliceData_row _ _ _ _ _ _ (by omega)
      have hUS : (Builtin.unsafeString_ #[92, 3] 9 #[.pointer (some ⟨g, 0, none⟩), .int .i64 l.length]).run Tryd.prog w.drew = .ok (.string ⟨l.toArray⟩) (w.drew.freeze ⟨g, 0, none⟩ l.length) := by
        refine Lib.run_unsafeString_row w.drew 92 3 9 5 Tryd.underlying92 hcb g cur.size (by have hg' : w.drew.heap[g]? = some (.cells cur 5 (0, 0)) := hg; simp [World.shape?, hg']) l hl (by omega) (by unfold maxLen at hcm; omega) ?_
        intro j x hx
        have := hown.cells (g := g) rfl j (.int .u8 x.toNat) (by simp [Lib.byteCells, hx])
        exact this
      refine (string_some b g cap l.length _ w hcell1 hSD hUS).mono ?_
      rintro e w' ⟨rfl, rfl⟩
      refine ⟨rfl, ?_⟩
      unfold World.freeze
      rw [if_neg hl0]
      exact ⟨rfl, rfl, rfl, by simp, fun i _ hx => by
        have : i ≠ g := fun e => hx (by rw [e]; rfl)
        simp only [Array.getElem?_modify]
        rw [if_neg (Ne.symm this)]
        rfl⟩
end Go.Proofs.YtljekaadbabhkaaDoor
/- strings.Builder in the abstract machine: WriteString, Len, String. The model of a builder is the string that it holds. -/
namespace Go.Proofs.YtljekaadbabhkaaDoor.Am
open Go.RowKit

abbrev bB (n : Nat) : Blk := ⟨68, 2, true, [[.ptrO 900 0 0 0, .own 901 0 0 n]]⟩
abbrev bJ (x : ByteArray) : Blk := ⟨5, 1, false, (bys x).map c_u8⟩
abbrev bE (x : ByteArray) : List (Nat × Blk) := [(900, bB (bys x).length), (901, bJ x)]
theorem bld_bys (x : ByteArray) : (bys x).length = x.size := by
  unfold bys
  rw [List.length_map, Array.length_toList]
  rfl
theorem cells_bys (x : ByteArray) : Lib.byteCells x.data.toList = (bys x).map (fun z => Value.int .u8 z) := by
  unfold Lib.byteCells bys
  rw [List.map_map]
  rfl
theorem cargs1b {α : Type} {c : Array α} (h : c.size = 1) : ∃ a, c = #[a] := by
  obtain ⟨l⟩ := c
  match l, h with
  | [a], _ => exact ⟨a, rfl⟩
theorem cargs2b {α : Type} {c : Array α} (h : c.size = 2) : ∃ a b, c = #[a, b] := by
  obtain ⟨l⟩ := c
  match l, h with
  | [a, b], _ => exact ⟨a, b, rfl⟩
/-- what the machine's state says of the builder -/
theorem bld_pre {w : World} {m : MM} {x : ByteArray} (hM : Mem cx.N w (fE (bE x)) m) : ∃ b p v, m 900 = some b ∧ BAt b p v w ∧ m 901 = v.ownBlock ∧ w.ownsRow 0 5 1 v x.size (Lib.byteCells x.data.toList) := by
  have hi : fE (bE x) 900 = ⟨0, some (bB (bys x).length)⟩ := rfl
  have hj : fE (bE x) 901 = ⟨0, some (bJ x)⟩ := rfl
  have ok1 := hM.ok 900 _ (by rw [hi])
  have ok2 := hM.ok 901 _ (by rw [hj])
  cases hb : m 900 with
  | none => rw [hb] at ok1; cases ok1.1
  | some b =>
    rw [hb] at ok1
    obtain ⟨arr, a1, a2, a3⟩ := ok1
    obtain ⟨_, a4⟩ := a3 0 _ rfl
    obtain ⟨p, p1, _, p2⟩ := a4 0 _ rfl
    obtain ⟨v, v1, _, v2⟩ := a4 1 _ rfl
    obtain ⟨xs, x1, x2, x3⟩ := own_row v2 hj ok2 (by rw [List.length_map])
    have a2' : 1 * 2 ≤ arr.size := a2
    have hadr : p = .pointer none ∨ p = .pointer (some ⟨b, 0, none⟩) := by
      rcases rv_ptrO p2 hi with e | ⟨b', e1, e2⟩
      · exact .inl e
      · rw [hb] at e1
        injection e1 with e1
        subst e1
        refine .inr (e2.trans ?_)
        show Value.pointer (some ⟨b, 0 * 2 + 0, none⟩) = _
        rfl
    have hxs : xs = Lib.byteCells x.data.toList := by
      rw [cells_bys]
      obtain ⟨q1, q2⟩ := x2
      refine List.ext_getElem? (fun k => ?_)
      by_cases hk : k < (bys x).length
      · have hz := List.getElem?_eq_getElem hk
        obtain ⟨_, q3⟩ := q2 k (c_u8 (bys x)[k]) (by rw [List.getElem?_map, hz]; rfl)
        obtain ⟨u, u1, _, u2⟩ := q3 0 _ rfl
        rw [List.getElem?_map, hz]
        have e := rv_c u2
        have u1' : xs[k]? = some u := by simpa using u1
        rw [u1', e]
        rfl
      · have hl : xs.length = (bys x).length * 1 := x1.1
        rw [List.getElem?_eq_none (by omega), List.getElem?_eq_none (by rw [List.length_map]; omega)]
    subst hxs
    rw [bld_bys] at x1
    exact ⟨b, p, v, rfl, ⟨⟨arr, a1, by omega, p1, v1⟩, hadr⟩, x3, x1⟩
/-- a builder's memory after a call, as the machine's -/
theorem bld_post {w w' : World} {m : MM} {x x' : ByteArray} {b : Nat} {p v v' : Value} {rA : AV} {r : Value} (hM : Mem cx.N w (fE (bE x)) m) (hG : cx.Gl w) (hb : m 900 = some b) (hv : m 901 = v.ownBlock) (h : BAt b p v' w') (hown : w'.ownsRow 0 5 1 v' x'.size (Lib.byteCells x'.data.toList)) (ho : Oth w w' (fun i => i = b ∨ v.ownBlock = some i))
    (hn : v'.ownBlock = v.ownBlock ∨ ∀ g, v'.ownBlock = some g → w.heap.size ≤ g) (hsh : w'.shape? b = w.shape? b) (hr : ∀ m', RV w' (shp (fE (bE x'))) m' rA r) :
    GR cx w m (bE x) [900] rA (bE x') r ⟨fun k => if k = 900 then some b else if k = 901 then v'.ownBlock else none, m.O⟩ w' := by
  have hi : fE (bE x) 900 = ⟨0, some (bB (bys x).length)⟩ := rfl
  have hj : fE (bE x) 901 = ⟨0, some (bJ x)⟩ := rfl
  have hi' : fE (bE x') 900 = ⟨0, some (bB (bys x').length)⟩ := rfl
  have hj' : fE (bE x') 901 = ⟨0, some (bJ x')⟩ := rfl
  have l1 : (fE (bE x) 900).blk ≠ none := by rw [hi]; simp
  have l2 : (fE (bE x) 901).blk ≠ none := by rw [hj]; simp
  have live : ∀ (y : ByteArray) i, (fE (bE y) i).blk ≠ none → i = 900 ∨ i = 901 := fun y i h => by
    have := fE_live.1 h
    simpa [keys] using this
  obtain ⟨arr, a1, a2, a3, a4⟩ := h.blk
  have hblt : b < w.heap.size := by
    have ok1 := hM.ok 900 _ (by rw [hi])
    rw [hb] at ok1
    obtain ⟨arr, a1, _⟩ := ok1
    exact lt_of_block a1
  have hvne : v'.ownBlock ≠ some b := Lib.ownBlock_ne hown a1 (by decide)
  have hX : ∀ i, (i = b ∨ v.ownBlock = some i) → ∃ k, (fE (bE x) k).blk ≠ none ∧ m k = some i := fun i h => by
    rcases h with rfl | h
    · exact ⟨900, l1, hb⟩
    · exact ⟨901, l2, by rw [hv, h]⟩
  have hnew : ∀ g, v'.ownBlock = some g → (∃ k, (fE (bE x) k).blk ≠ none ∧ m k = some g) ∨ w.heap.size ≤ g := fun g hg => by
    rcases hn with e | e
    · exact .inl ⟨901, l2, by rw [hv, ← e, hg]⟩
    · exact .inr (e g hg)
  have m0 : (⟨fun k => if k = 900 then some b else if k = 901 then v'.ownBlock else none, m.O⟩ : MM) 900 = some b := rfl
  have m1 : (⟨fun k => if k = 900 then some b else if k = 901 then v'.ownBlock else none, m.O⟩ : MM) 901 = v'.ownBlock := rfl
  refine ⟨hr _, ⟨fun i B hB => ?_, fun i k g hi1 hk1 e1 e2 => ?_, fun i g hi1 e1 => ?_, fun i g hi1 e1 ho1 => ?_, fun g hg => ⟨Nat.lt_of_lt_of_le (hM.olt g hg).1 ho.size, (hM.olt g hg).2⟩, Nat.le_trans hM.big ho.size⟩, rfl, ⟨ho.os, ho.tape, ho.output, ho.size, fun i hi1 hx => ho.block i hi1 (fun e => hx (hX i e))⟩, fun i g hi1 e1 => ?_, fun i hi1 => ?_, cx.keep w w' (fun i hi1 => ho.block i (Nat.lt_of_lt_of_le hi1 hM.big) (fun e => ?_)) hG⟩
  · rcases live x' i (by rw [hB]; simp) with rfl | rfl
    · rw [hi'] at hB
      injection hB with hB
      subst hB
      rw [m0]
      refine ⟨arr, a1, by show 1 * 2 ≤ _; omega, fun k e he => ?_⟩
      cases k with
      | succ k => simp at he
      | zero =>
        simp at he
        subst he
        refine ⟨rfl, fun j y hy => ?_⟩
        match j, hy with
        | 0, hy =>
          simp at hy
          subst hy
          refine ⟨p, a3, ?_, ?_⟩
          · rcases h.adr with rfl | rfl <;> rfl
          · rcases h.adr with rfl | rfl
            · exact .ptrON (sz := 2) rfl
            · exact RV.ptrO (sz := 2) (b := b) (k := 0) (j := 0) rfl rfl
        | 1, hy =>
          simp at hy
          subst hy
          rw [bld_bys]
          rcases hown.2 with ⟨rfl, h0⟩ | ⟨g, cap, cur, rfl, _, hh, hnc, hmx, hcs, htake⟩
          · rw [h0]
            exact ⟨_, a4, rfl, .ownN (sz := 1) rfl rfl⟩
          · refine ⟨_, a4, rfl, ?_⟩
            have := RV.own (w := w') (vs := shp (fE (bE x'))) (m := ⟨fun k => if k = 900 then some b else if k = 901 then (Value.slice (some ⟨g, 0, none⟩) x'.size cap).ownBlock else none, m.O⟩) (i := 901) (ver := 0) (sz := 1) (k := 0) (b := g) (ty := 5) (n := cur.size) (len := x'.size) (cap := cap) rfl rfl hnc hmx (by simp [World.shape?, hh]) (by rw [Nat.zero_add, hcs])
            simpa using this
        | j + 2, hy => simp at hy
    · rw [hj'] at hB
      injection hB with hB
      subst hB
      rw [m1]
      rcases hown.2 with ⟨rfl, h0⟩ | ⟨g, cap, cur, rfl, _, hh, hnc, hmx, hcs, htake⟩
      · refine ⟨?_, rfl⟩
        show (bys x').map c_u8 = []
        rw [List.map_eq_nil_iff, ← List.length_eq_zero_iff, bld_bys, h0]
      · refine ⟨cur, hh, ?_, fun k e he => ?_⟩
        · show ((bys x').map c_u8).length * 1 ≤ _
          rw [List.length_map, bld_bys]
          omega
        · have he' : ((bys x').map c_u8)[k]? = some e := he
          rw [List.getElem?_map] at he'
          cases hz : (bys x')[k]? with
          | none => rw [hz] at he'; cases he'
          | some z =>
            rw [hz] at he'
            injection he' with he'
            subst he'
            refine ⟨rfl, fun j y hy => ?_⟩
            cases j with
            | succ j => simp [c_u8] at hy
            | zero =>
              simp [c_u8] at hy
              subst hy
              refine ⟨.int .u8 z, ?_, rfl, .c _⟩
              have hk : k < (bys x').length := (List.getElem?_eq_some_iff.1 hz).1
              have := congrArg (fun l => l[k]?) htake
              rw [cells_bys] at this
              simp only [List.getElem?_take, List.getElem?_map, hz] at this
              rw [bld_bys] at hk
              rw [if_pos (by omega)] at this
              simpa using this
  · rcases live x' i hi1 with rfl | rfl <;> rcases live x' k hk1 with rfl | rfl
    · rfl
    · rw [m0] at e1; rw [m1] at e2; exact absurd (e2.trans e1.symm) hvne
    · rw [m1] at e1; rw [m0] at e2; exact absurd (e1.trans e2.symm) hvne
    · rfl
  · rcases live x' i hi1 with rfl | rfl
    · rw [m0] at e1; exact hM.low 900 g l1 (hb.trans e1)
    · rw [m1] at e1
      rcases hnew g e1 with ⟨k, k1, k2⟩ | q
      · exact hM.low k g k1 k2
      · exact Nat.le_trans hM.big q
  · rcases live x' i hi1 with rfl | rfl
    · rw [m0] at e1; exact hM.sep 900 g l1 (hb.trans e1) ho1
    · rw [m1] at e1
      rcases hnew g e1 with ⟨k, k1, k2⟩ | q
      · exact hM.sep k g k1 k2 ho1
      · have := (hM.olt g ho1).1
        omega
  · rcases live x' i hi1 with rfl | rfl
    · rw [m0] at e1; exact .inl ⟨900, l1, hb.trans e1⟩
    · rw [m1] at e1; exact hnew g e1
  · simp only [List.mem_singleton] at hi1
    subst hi1
    exact ⟨hb.symm ▸ m0, fun g hg => by rw [hb] at hg; injection hg with hg; subst hg; exact hsh⟩
  · obtain ⟨k, k1, k2⟩ := hX i e
    have := hM.low k i k1 k2
    omega
def M_WriteString (x s : ByteArray) : Option (Int × Er × ByteArray) := grd (x.size + s.size ≤ 140737488355328) (some ((s.size : Int), .nil, x ++ s))
theorem A_WriteString (x s : ByteArray) {r1 : Int} {r2 : Er} {y : ByteArray} (h : M_WriteString x s = some (r1, r2, y)) : ACallG cx 36 [.ptr 900 0 0 0, .c (.string s)] (bE x) [900] (.tup [.c (.int .i64 r1), eA r2]) (bE y) := by
  obtain ⟨h0, h⟩ := grd_ok h
  have h := Option.some.inj h
  injection h with e1 h
  injection h with e2 e3
  subst e1 e2 e3
  refine ⟨enter_g Tryd.func36 rfl (by decide), fun w m cargs hg hM hsz hargs => ?_⟩
  obtain ⟨q, t, rfl⟩ := cargs2b hsz
  obtain ⟨b, p, v, hb, hB, hv, hown⟩ := bld_pre hM
  obtain ⟨b', e1, rfl⟩ := rv_ptr (hargs 0 _ q rfl rfl) (B := bB (bys x).length) rfl
  rw [hb] at e1
  injection e1 with e1
  subst e1
  have et := rv_c (hargs 1 _ t rfl rfl)
  subst et
  refine (writeString_at b p v x.size _ s w hB hown h0).mono ?_
  rintro e w' ⟨rfl, v', h1, h2, h3, h4, h5⟩
  refine ⟨_, _, rfl, bld_post hM hg hb hv h1 ?_ h3 h4 h5 (fun m' => .tup rfl (fun j y u hy hu => ?_))⟩
  · have e1 : (x ++ s).size = x.size + s.size := by simp
    have e2 : Lib.byteCells (x ++ s).data.toList = Lib.byteCells x.data.toList ++ Lib.strCells s := by simp [Lib.byteCells, Lib.strCells, ByteArray.data_append]
    rw [e1, e2]
    exact h2
  · match j, hy, hu with
    | 0, hy, hu => simp at hy hu; subst hy hu; exact .c _
    | 1, hy, hu => simp [eA] at hy hu; subst hy hu; exact .c _
    | j + 2, hy, hu => simp at hy
def M_BuilderLen (x : ByteArray) : Option Int := some (x.size : Int)
theorem A_BuilderLen (x : ByteArray) {r : Int} (h : M_BuilderLen x = some r) : ACallG cx 39 [.ptr 900 0 0 0] (bE x) [900, 901] (.c (.int .i64 r)) (bE x) := by
  obtain rfl := Option.some.inj h
  refine ⟨enter_g Tryd.func39 rfl (by decide), fun w m cargs hg hM hsz hargs => ?_⟩
  obtain ⟨q, rfl⟩ := cargs1b hsz
  obtain ⟨b, p, v, hb, hB, hv, hown⟩ := bld_pre hM
  obtain ⟨b', e1, rfl⟩ := rv_ptr (hargs 0 _ q rfl rfl) (B := bB (bys x).length) rfl
  rw [hb] at e1
  injection e1 with e1
  subst e1
  refine (len_at b p v x.size _ w hB hown).mono ?_
  rintro e w' ⟨rfl, rfl⟩
  exact ⟨_, m, rfl, .c _, hM, rfl, ⟨rfl, rfl, rfl, Nat.le_refl _, fun _ _ _ => rfl⟩, fun i g hi hg => .inl ⟨i, hi, hg⟩, fun i _ => ⟨rfl, fun _ _ => rfl⟩, hg⟩
def M_BuilderString (x : ByteArray) : Option ByteArray := some x
theorem A_BuilderString (x : ByteArray) {r : ByteArray} (h : M_BuilderString x = some r) : ACallG cx 40 [.ptr 900 0 0 0] (bE x) [] (.c (.string r)) [] := by
  obtain rfl := Option.some.inj h
  refine ⟨enter_g Tryd.func40 rfl (by decide), fun w m cargs hg hM hsz hargs => ?_⟩
  obtain ⟨q, rfl⟩ := cargs1b hsz
  obtain ⟨b, p, v, hb, hB, hv, hown⟩ := bld_pre hM
  obtain ⟨b', e1, rfl⟩ := rv_ptr (hargs 0 _ q rfl rfl) (B := bB (bys x).length) rfl
  rw [hb] at e1
  injection e1 with e1
  subst e1
  have hl : x.data.toList.length = x.size := by rw [Array.length_toList]; rfl
  rw [← hl] at hown
  refine (string_at b p v x.data.toList w hB hown).mono ?_
  rintro e w' ⟨rfl, ho⟩
  have hj : fE (bE x) 901 = ⟨0, some (bJ x)⟩ := rfl
  have l2 : (fE (bE x) 901).blk ≠ none := by rw [hj]; simp
  have mem : Mem cx.N w' (fE []) ⟨fun _ => none, m.O⟩ := ⟨fun i B hB => by simp [fE] at hB, fun i k g hi => by simp [fE] at hi, fun i g hi => by simp [fE] at hi, fun i g hi => by simp [fE] at hi, fun g hg => ⟨Nat.lt_of_lt_of_le (hM.olt g hg).1 ho.size, (hM.olt g hg).2⟩, Nat.le_trans hM.big ho.size⟩
  refine ⟨_, ⟨fun _ => none, m.O⟩, rfl, ⟨.c _, mem, rfl, ⟨ho.os, ho.tape, ho.output, ho.size, fun i hi1 hx => ho.block i hi1 (fun e => hx ⟨901, l2, by rw [hv, e]⟩)⟩, fun i g hi => by simp [fE] at hi, fun i hi => (by cases hi), cx.keep w w' (fun i hi1 => ho.block i (Nat.lt_of_lt_of_le hi1 hM.big) (fun e => ?_)) hg⟩⟩
  have := hM.low 901 i l2 (by rw [hv, e])
  omega
end Go.Proofs.YtljekaadbabhkaaDoor.Am
/- Contracts of strconv.Itoa and strings.Join, as models; string(b) of a row of bytes of the call's own. -/
namespace Go.Proofs.YtljekaadbabhkaaDoor.Am
open Go.RowKit

def M_Itoa (n : Int) : Option ByteArray := grd (-9223372036854775808 ≤ n ∧ n ≤ 9223372036854775807) (some ⟨(Lib.itoa n).toArray⟩)
theorem A_Itoa (n : Int) {r : ByteArray} (h : M_Itoa n = some r) : ACall cx 37 [.c (.int .i64 n)] (.c (.string r)) := by
  obtain ⟨⟨h0, h1⟩, h⟩ := grd_ok h
  obtain rfl := Option.some.inj h
  refine acall_gl Tryd.func37 rfl (by decide) (fun w O cargs ht hO hs hr => ?_)
  obtain ⟨a, rfl⟩ := args1 hs
  obtain rfl := rv_c (hr 0 _ a rfl rfl)
  refine (Tryd.strconv_Itoa n h0 h1 w ht.1).mono ?_
  rintro e w' ⟨rfl, k, os, rfl⟩
  exact ⟨_, rfl, .c _, rfl, rfl, rfl, by show w.heap.size ≤ (w.heap ++ os).size; rw [Array.size_append]; omega, fun j hj => by
    show (w.heap ++ os)[j]? = w.heap[j]?
    exact Array.getElem?_append_left hj⟩
def joinB (l : List ByteArray) (sep : ByteArray) : List UInt8 := Lib.join (l.map (·.data.toList)) sep.data.toList
def M_Join (l : List ByteArray) (sep : ByteArray) : Option ByteArray := grd (l ≠ []) (grd (l.length ≤ 140737488355328) (grd ((joinB l sep).length ≤ 140737488355328) (some ⟨(joinB l sep).toArray⟩)))
theorem A_Join (l : List ByteArray) (sep : ByteArray) {r : ByteArray} (h : M_Join l sep = some r) : ACall cx 38 [.sl 1 (l.map cS), .c (.string sep)] (.c (.string r)) := by
  obtain ⟨h0, h⟩ := grd_ok h
  obtain ⟨h1, h⟩ := grd_ok h
  obtain ⟨h2, h⟩ := grd_ok h
  obtain rfl := Option.some.inj h
  refine acall_gl Tryd.func38 rfl (by decide) (fun w O cargs ht hO hs hr => ?_)
  obtain ⟨v, t, rfl⟩ := args2 hs
  obtain rfl := rv_c (hr 1 _ t rfl rfl)
  obtain ⟨A, cap, b, off, f, rfl, hA, hcap, _, _, hc, hv, _⟩ := rv_sl (hr 0 _ v rfl rfl)
  have hne : l.map cS ≠ [] := fun e => h0 (by simpa using e)
  obtain ⟨rfl, _, hb⟩ := hA hne
  rw [List.length_map] at hcap ⊢
  refine (Tryd.strings_Join b off cap l sep w (fun j x hj => ?_) hb h1 hcap h2).mono ?_
  · have e1 : (l.map cS)[j]? = some (cS x) := by rw [List.getElem?_map, hj]; rfl
    have q1 := (hc j 0 _ _ e1 rfl).1
    have q2 := rv_c (hv j 0 _ _ e1 rfl)
    rw [q2] at q1
    simpa using q1
  · rintro e w' ⟨rfl, hbl⟩
    exact ⟨_, rfl, .c _, hbl⟩
/-- string(b): b a row of bytes of the call's own -/
theorem lf_str {C : Cx} {n : Nat} {o : Oper} {τ : Nat → AV} {η : Nat → Ent} {src dst e : TypeId} {ts td : TI} {x : Operand} {i ver len : Nat} {B : Blk} {xs : List Int} (ho : o.op = .convert src dst x) (hd : InB n o.dst) (hx : evA τ x = .own i ver 0 len) (hi : η i = ⟨ver, some B⟩) (hB : B.els = xs.map c_u8) (hsz : B.sz = 1) (hl : len = xs.length)
    (hs : TyOk C.P src ts) (hsk : ts.kind = .slice e) (ht : TyOk C.P dst td) (hk : td.kind = .str) (he : C.P.underlying e = some (.int .u8)) : LF C n o τ η ⟨.c (.string (strOfNums xs)), [], [i]⟩ := by
  refine lf_pure hd (fun τ' η' g1 g2 => ?_)
  intro w0 X mm a w h
  have hi' : η' i = ⟨ver, some B⟩ := (g2 i (List.mem_singleton.2 rfl)).trans hi
  have e1 := h.ev x
  rw [g1 x (by simp [ho, Op.operands]), hx] at e1
  obtain ⟨vs, x1, x2, x3⟩ := own_row e1 hi' (h.mem.ok i _ (by rw [hi'])) (by rw [hB, List.length_map, hl])
  refine ⟨_, ?_, .c _⟩
  have hst : C.P.underlying dst = some .string := by
    obtain ⟨d, d1, d2⟩ := ht.und
    rw [hk] at d2
    cases d <;> simp [TK.fits] at d2
    exact d1
  have hsl := hs.sliceU hsk
  have hcell : ∀ k, k < len → vs[k]? = some (.int .u8 (xs.getD k 0)) := fun k hkl => by
    have hz := List.getElem?_eq_getElem (l := xs) (i := k) (by omega)
    obtain ⟨_, q3⟩ := x2.2 k (c_u8 xs[k]) (by rw [hB, List.getElem?_map, hz]; rfl)
    obtain ⟨u, u1, _, u2⟩ := q3 0 _ rfl
    have e := rv_c u2
    rw [hsz] at u1
    have u1' : vs[k]? = some u := by simpa using u1
    rw [u1', e, List.getD_eq_getElem?_getD, hz]
    rfl
  have hfin : (convert src dst (a.eval x)).run C.P w = .ok (.string (strOfNums xs)) w := by
    rcases x1.2 with ⟨hv, h0⟩ | ⟨g, cap, cur, hv, _, hg, hnc, hcm, hcs, htk⟩
    · have : xs = [] := List.length_eq_zero_iff.1 (by omega)
      subst this
      rw [hv]
      exact run_convert_bytes_nil w src e hsl he 0 0 dst hst
    · rw [hv]
      refine run_convert_bytes_arg w src e hsl he g 0 len cap xs hl.symm (fun k hkl => ?_) dst hst
      have := x1.cells (g := g) (by rw [hv]; rfl) k _ (hcell k hkl)
      by_cases hk0 : k = 0
      · subst hk0; simpa [Addr.add] using this
      · simpa [Addr.add, hk0] using this
  simp [execOp, ho, hfin]
end Go.Proofs.YtljekaadbabhkaaDoor.Am
/- Models printed by my decompiler, and the proofs that the code computes them. -/
namespace Go.Proofs.YtljekaadbabhkaaDoor.Am
open Go.RowKit
theorem zb_XDFmt {P : Prop} (h : P := by repeat (first | exact BWL.nil | exact bwll_nil | exact bw_c | exact BW.sl | exact BW.nil | exact bwll_same rfl FrI.h | refine BWL.cons ?_ ?_ | refine bwll_cons ?_ ?_ | (refine bw_own3 rfl rfl rfl FrI.h ?_ ?_ ?_) | exact BW.fr FrV.h | exact BW.fr (by assumption) | refine bw_agg ?_ | refine bw_clo ?_ | refine bw_ptr rfl rfl rfl ?_ | (refine bw_own rfl rfl rfl ?_ FrI.h ?_ ?_) | assumption | omega | rfl | (rw [List.length_map, ← List.length_append]; assumption) | (refine bwll_same ?_ FrI.h; (simp [cGStep, cS, c_u8, cF] <;> fail)) | (rw [List.map_set]; refine bwll_set (by first | rfl | omega | simp) ?_ ?_) | refine bwll_set (by first | rfl | omega | simp) ?_ ?_ | (rw [List.map_replicate]; refine bwll_rep ?_) | refine bwll_rep ?_ | (rw [List.map_append]; refine bwll_append ?_ ?_) | refine bwll_append ?_ ?_ | (simp [cGStep, cS, c_u8, cF, take_len_map] <;> fail) | (rw [List.drop_zero, List.take_of_length_le] <;> first | rfl | (simp [cGStep, cS, c_u8, cF] <;> fail)) | (simp; omega) | (simp only [List.length_map, List.length_append, List.drop_zero, List.length_cons, List.length_nil, Nat.zero_add, Nat.add_zero] at *; omega))) : P := h
theorem zg_XDFmt {P : Prop} (h : P := by repeat (first | exact True.intro | exact gb_nil rfl rfl | refine gb_some ⟨rfl, rfl, rfl⟩ ?_ | refine And.intro ?_ ?_ | refine gw_ren rfl rfl rfl rfl rfl ?_ | exact gw_oren rfl rfl rfl rfl rfl | exact gw_opren rfl rfl rfl rfl rfl | exact gw_onil rfl rfl | refine gw_pren rfl rfl rfl rfl rfl | exact gw_thaw rfl rfl rfl | refine gw_tup ?_ | exact GWL.nil | exact gwll_nil | exact gw_c | exact GW.sl | exact GW.nil | exact gwll_same rfl FrI.h | refine GWL.cons ?_ ?_ | refine gwll_cons ?_ ?_ | (refine gw_own3 rfl rfl rfl FrI.h ?_ ?_ ?_) | exact GW.fr FrV.h | exact GW.fr (by assumption) | refine gw_agg ?_ | refine gw_clo ?_ | refine gw_ptr rfl rfl rfl ?_ | (refine gw_own rfl rfl rfl ?_ FrI.h ?_ ?_) | assumption | omega | rfl | (rw [List.length_map, ← List.length_append]; assumption) | (refine gwll_same ?_ FrI.h; (simp [cGStep, cS, c_u8, cF] <;> fail)) | (rw [List.map_set]; refine gwll_set (by first | rfl | omega | simp) ?_ ?_) | refine gwll_set (by first | rfl | omega | simp) ?_ ?_ | (rw [List.map_replicate]; refine gwll_rep ?_) | refine gwll_rep ?_ | (rw [List.map_append]; refine gwll_append ?_ ?_) | refine gwll_append ?_ ?_ | (simp [cGStep, cS, c_u8, cF, take_len_map] <;> fail) | (rw [List.drop_zero, List.take_of_length_le] <;> first | rfl | (simp [cGStep, cS, c_u8, cF] <;> fail)) | (simp; omega) | (simp only [List.length_map, List.length_append, List.drop_zero, List.length_cons, List.length_nil, Nat.zero_add, Nat.add_zero] at *; omega))) : P := h
theorem zn_XDFmt {P : Prop} (h : P := by repeat (first | exact True.intro | rfl | exact Nat.le_of_ble_eq_true rfl | exact gb_nil rfl rfl | refine gb_some ⟨rfl, rfl, rfl⟩ ?_ | refine And.intro ?_ ?_ | refine gw_ren rfl rfl rfl rfl rfl ?_ | exact gw_oren rfl rfl rfl rfl rfl | exact gw_opren rfl rfl rfl rfl rfl | exact gw_onil rfl rfl | refine gw_pren rfl rfl rfl rfl rfl | exact gw_thaw rfl rfl rfl | refine gw_tup ?_ | exact GWL.nil | exact gwll_nil | exact gw_c | exact GW.sl | exact GW.nil | exact gwll_same rfl FrI.h | refine GWL.cons ?_ ?_ | refine gwll_cons ?_ ?_ | (refine gw_own3 rfl rfl rfl FrI.h ?_ ?_ ?_) | exact GW.fr FrV.h | exact GW.fr (by assumption) | refine gw_agg ?_ | refine gw_clo ?_ | refine gw_ptr rfl rfl rfl ?_ | (refine gw_own rfl rfl rfl ?_ FrI.h ?_ ?_) | assumption | omega | rfl | (rw [List.length_map, ← List.length_append]; assumption) | (refine gwll_same ?_ FrI.h; (simp [cGStep, cS, c_u8, cF] <;> fail)) | (rw [List.map_set]; refine gwll_set (by first | rfl | omega | simp) ?_ ?_) | refine gwll_set (by first | rfl | omega | simp) ?_ ?_ | (rw [List.map_replicate]; refine gwll_rep ?_) | refine gwll_rep ?_ | (rw [List.map_append]; refine gwll_append ?_ ?_) | refine gwll_append ?_ ?_ | (simp [cGStep, cS, c_u8, cF, take_len_map] <;> fail) | (rw [List.drop_zero, List.take_of_length_le] <;> first | rfl | (simp [cGStep, cS, c_u8, cF] <;> fail)) | (simp; omega) | (simp only [List.length_map, List.length_append, List.drop_zero, List.length_cons, List.length_nil, Nat.zero_add, Nat.add_zero] at *; omega))) : P := h
theorem ci_XDFmt {p K : Prop} (k : K) (h : p := by first | rfl | exact ⟨rfl, rfl⟩ | exact BW.fr FrV.h | (refine BW.fr ?_; assumption) | (refine ⟨rfl, ?_⟩; (simp [cGStep, cS, c_u8, cF, take_len_map]; done)) | (refine RowK.same ?_ FrI.h; first | rfl | (simp [cGStep, cS, c_u8, cF, take_len_map]; done)) | (refine row_part1 ?_; (exact zb_XDFmt); done) | ((exact zb_XDFmt); done) | (simp [cGStep, cS, c_u8, cF, take_len_map]; done)) : p ∧ K := ⟨h, k⟩
theorem ca_XDFmt {P : Prop} (h : P := by repeat (first | exact True.intro | refine ci_XDFmt ?_)) : P := h
theorem pr_XDFmt {p K : Prop} (k : K) (h : p := by first | assumption | exact Int.natCast_nonneg _ | exact Nat.le_refl _ | exact Nat.zero_le _ | omega | (simp; done) | (simp; omega)) : p ∧ K := ⟨h, k⟩
theorem pl_XDFmt {p K : Prop} (k : K) (h : p := by first | rfl | exact List.length_map _ | (simp; done) | (simp; omega)) : p ∧ K := ⟨h, k⟩
theorem pe_XDFmt {p K : Prop} (k : K) (h : p := by first | omega | (simp; omega) | (simp only [List.length_map, List.length_cons, List.length_nil, List.length_append]; omega) | (simp only [List.length_map, List.drop_zero, List.length_cons, List.length_nil, Nat.zero_add, Nat.add_zero] at *; omega)) : p ∧ K := ⟨h, k⟩
theorem dr_XDFmt {b : Bool} {p K : Prop} (k : K) (h : b = true → p := by intro h; first | (cases h; done) | exact ⟨by kernel_rfl, by kernel_rfl⟩) : (b = true → p) ∧ K := ⟨h, k⟩
theorem cl_XDFmt {C : Cx} {n : Nat} {o : Oper} {τ : Nat → AV} {η : Nat → Ent} {f : FuncId} {os : Array Operand} {ats : Array TypeId} {r : AV} {args : List AV} {K : Foot → Prop} (ho : o.op = .call ⟨.value (.func f), os, ats⟩) (hc : ACall C f args r) (k : K ⟨r, [], []⟩)
    (hd : InB n o.dst := by exact Nat.le_of_ble_eq_true rfl) (hargs : os.toList.map (evA τ) = args := by first | rfl | (simp [cGStep, cS, c_u8, cF]; done) | (repeat (first | exact rfl | refine cons_eq ?_ ?_ | exact sl_dt rfl))) (hfr : frs args := by repeat (first | exact trivial | exact fr1_eA _ | exact fr0_eA _ | exact fr1_fr (by assumption) | exact FrV.h | refine And.intro ?_ ?_)) (hr : fr1 r := by repeat (first | exact trivial | exact fr1_eA _ | exact fr0_eA _ | exact fr1_fr (by assumption) | exact FrV.h | refine And.intro ?_ ?_)) : ∃ f : Foot, LF C n o τ η f ∧ K f := ⟨_, lf_call ho hd hargs hc hfr hr, k⟩
theorem clb_XDFmt {C : Cx} {n : Nat} {o : Oper} {τ : Nat → AV} {η : Nat → Ent} {f : FuncId} {os : Array Operand} {ats : Array TypeId} {r : AV} {xs ys : List AV} {K : Foot → Prop} (bs : List Nat) (ho : o.op = .call ⟨.value (.func f), os, ats⟩) (hargs : os.toList.map (evA τ) = xs) (hc : ACall C f ys r) (k : K ⟨r, [], bs⟩)
    (hd : InB n o.dst := by exact Nat.le_of_ble_eq_true rfl) (hb : BWL η (dropB η bs) xs ys := by exact zb_XDFmt) (hr : scal r := by repeat (first | exact trivial | exact scal0_eA _ | exact scal_eA _ | refine And.intro ?_ ?_)) : ∃ f : Foot, LF C n o τ η f ∧ K f := ⟨_, lf_callB bs ho hd hargs hb hc hr, k⟩
theorem clg_XDFmt {C : Cx} {n : Nat} {o : Oper} {τ : Nat → AV} {η : Nat → Ent} {f : FuncId} {os : Array Operand} {ats : Array TypeId} {r : AV} {xs ys : List AV} {bs bs' : List (Nat × Blk)} {ks : List Nat} {K : Foot → Prop} (ρ : List (Nat × Nat)) (fz : List Nat) (go nb : List (Nat × Ent)) (r' : AV) (ho : o.op = .call ⟨.value (.func f), os, ats⟩) (hargs : os.toList.map (evA τ) = xs)
    (hc : ACallG C f ys bs ks r bs') (k : K ⟨r', go ++ nb, []⟩) (hd : InB n o.dst := by exact Nat.le_of_ble_eq_true rfl) (hok : okC ρ fz bs ks bs' (idsE go) = true := by rfl) (hgo : allUs η go := by repeat (first | exact trivial | refine And.intro rfl ?_)) (hgl : ltUs n go := by repeat (first | exact trivial | refine And.intro (Nat.le_of_ble_eq_true rfl) ?_))
    (hw : GWL η (fE bs) (lk ρ) (fun i => inB fz i = true) (fun i => inB (keys bs) i = true) xs ys := by exact zg_XDFmt) (hb : GBL η (fE bs) (lk ρ) (fun i => inB fz i = true) (fun i => inB (keys bs) i = true) bs := by exact zg_XDFmt)
    (hr : GW (fE bs') (updAll η (go ++ nb)) (lk (backN ρ bs')) (fun _ => False) (fun i => inB (idsE nb) i = true) r r' := by exact zg_XDFmt)
    (hnb : nbOk n η (updAll η (go ++ nb)) ρ ks (fE bs') (lk (backN ρ bs')) (fun i => inB (idsE nb) i = true) bs' nb := by exact zn_XDFmt) : ∃ f : Foot, LF C n o τ η f ∧ K f := ⟨_, lf_callG ρ fz go nb ho hd hargs hc hok hgo hgl hw hb hr hnb, k⟩
theorem clk_XDFmt {C : Cx} {n : Nat} {o : Oper} {τ : Nat → AV} {η : Nat → Ent} {f : FuncId} {os : Array Operand} {ats : Array TypeId} {r : AV} {xs ys : List AV} {bs bs' : List (Nat × Blk)} {ks : List Nat} {K : Foot → Prop} (ρ : List (Nat × Nat)) (nb : List (Nat × Ent)) (r' : AV) (ho : o.op = .call ⟨.value (.func f), os, ats⟩) (hargs : os.toList.map (evA τ) = xs)
    (hc : ACallG C f ys bs ks r bs') (k : K ⟨r', [], nb.map (·.1)⟩) (hd : InB n o.dst := by exact Nat.le_of_ble_eq_true rfl) (hok : okC ρ [] bs ks bs' (idsE []) = true := by rfl)
    (hw : GWL η (fE bs) (lk ρ) (fun i => inB [] i = true) (fun i => inB (keys bs) i = true) xs ys := by exact zg_XDFmt) (hb : GBL η (fE bs) (lk ρ) (fun i => inB [] i = true) (fun i => inB (keys bs) i = true) bs := by exact zg_XDFmt)
    (hr : GW (fE bs') (updAll η ([] ++ nb)) (lk (backN ρ bs')) (fun _ => False) (fun i => inB (idsE nb) i = true) r r' := by exact zg_XDFmt)
    (hnb : nbOk n η (updAll η ([] ++ nb)) ρ ks (fE bs') (lk (backN ρ bs')) (fun i => inB (idsE nb) i = true) bs' nb := by exact zn_XDFmt) (hs : sameUs η nb := by repeat (first | exact True.intro | refine And.intro rfl ?_)) : ∃ f : Foot, LF C n o τ η f ∧ K f := ⟨_, lf_callK (lf_callG ρ [] [] nb ho hd hargs hc hok True.intro True.intro hw hb hr hnb) hs, k⟩
def M_l13_long_L1 (y57 : GStep) : Nat → Int → Int → Option (Int)
  | 0, _, _ => none
  | k64 + 1, v62, v63 =>
    sel (decide (v63 < ((y57.Args.map cS).length : Int)))
     (ix y57.Args v63 (fun y65 =>
       M_l13_long_L1 y57 k64 (IntKind.i64.wrap (v62 + (y65.size : Int))) (IntKind.i64.wrap (v63 + 1))))
     (some v62)
def M_l13_long_L2 (a0 : List GStep) : Nat → Int → Int → Option (Bool)
  | 0, _, _ => none
  | k45 + 1, v43, v44 =>
    sel (decide (v44 < ((a0.map cGStep).length : Int)))
     (ob1 (ix a0 v44 (fun y57 =>
        M_l13_long_L1 y57 ((((y57.Args.map cS).length : Int)).toNat + 1) (IntKind.i64.wrap (v43 + (IntKind.i64.wrap ((y57.Name.size : Int) + ((y57.Args.map cS).length : Int))))) 0) : Option (Int))
       (fun v55 => M_l13_long_L2 a0 k45 v55 (IntKind.i64.wrap (v44 + 1))))
     (some (decide (v43 > 3000)))
def M_l13_long (a0 : List GStep) : Option (Bool) :=
  M_l13_long_L2 a0 ((((a0.map cGStep).length : Int)).toNat + 1) ((a0.map cGStep).length : Int) 0
set_option maxHeartbeats 16000000 in
set_option maxRecDepth 100000 in
theorem A_l13_long (a0 : List GStep) {r1 : Bool} (h : M_l13_long a0 = some r1) : ACall cx 15 [.sl 3 (a0.map cGStep)] (.c (.bool r1)) := by
  refine aOf Tryd.func15 rfl (by decide) rfl (Nat.le_of_ble_eq_true rfl) ?_; intro _; unfold M_l13_long at h; refine aSq ?_; refine aRg ?_; intro _; refine dr_XDFmt ?_; refine aSq ?_; refine aRg ?_; intro _; refine dr_XDFmt ?_; refine aSq ?_; refine aSq ?_; refine aRg ?_; intro _; refine dr_XDFmt ?_; refine aBk ?_; refine awp_loop (α := Nat × Int × Int) (fun x => mkS 40 [(3, .c (.int .i64 x.2.1)), (10, .sl 3 (a0.map cGStep)), (11, .c (.int .i64 ((a0.map cGStep).length : Int))), (12, .c (.int .i64 x.2.2))] []) (fun x => M_l13_long_L2 a0 x.1 x.2.1 x.2.2 = some r1) (fun x => x.1) ((((a0.map cGStep).length : Int)).toNat + 1, ((a0.map cGStep).length : Int), 0) h ?_ ?_
  · exact ca_XDFmt
  · intro x1 h; intro _; obtain ⟨k45, m2, h⟩ := succ_of (f := fun n => M_l13_long_L2 a0 n x1.2.1 x1.2.2) rfl h; replace h : M_l13_long_L2 a0 (k45 + 1) x1.2.1 x1.2.2 = some r1 := h; rw [M_l13_long_L2] at h; refine aSq ?_; refine aRg ?_; intro _; refine dr_XDFmt ?_; refine aSq ?_; refine aCd ?_; intro _; refine spl h (fun c3 h => ?_) (fun c3 h => ?_)
    · refine aSk ?_; obtain ⟨o4, h, hK5⟩ := ob1_ok h; refine awp_cut (α := Int) (fun v55 => mkS 40 [(3, .c (.int .i64 v55)), (10, .sl 3 (a0.map cGStep)), (11, .c (.int .i64 ((a0.map cGStep).length : Int))), (12, .c (.int .i64 x1.2.2))] []) (fun v => o4 = v) ?_ ?_
      · refine aBk ?_; refine aSq ?_; refine aRg ?_; intro _; obtain ⟨y57, w6, q7, h⟩ := ix_ok h; refine Exists.intro (cGStep y57) (And.intro (map_at' w6) ?_); intro _; refine pr_XDFmt ?_; refine dr_XDFmt ?_; refine aSq ?_; refine aRg ?_; intro _; refine dr_XDFmt ?_; refine aSq ?_; refine aRg ?_; intro _; refine dr_XDFmt ?_; refine aBk ?_; refine awp_loop (α := Nat × Int × Int) (fun x => mkS 40 [(3, .c (.int .i64 x.2.1)), (10, .sl 3 (a0.map cGStep)), (11, .c (.int .i64 ((a0.map cGStep).length : Int))), (12, .c (.int .i64 x1.2.2)), (26, .sl 1 (y57.Args.map cS)), (27, .c (.int .i64 ((y57.Args.map cS).length : Int))), (28, .c (.int .i64 x.2.2))] []) (fun x => M_l13_long_L1 y57 x.1 x.2.1 x.2.2 = some o4) (fun x => x.1) ((((y57.Args.map cS).length : Int)).toNat + 1, (IntKind.i64.wrap (x1.2.1 + (IntKind.i64.wrap ((y57.Name.size : Int) + ((y57.Args.map cS).length : Int))))), 0) h ?_ ?_
        · exact ca_XDFmt
        · intro x8 h; intro _; obtain ⟨k64, m9, h⟩ := succ_of (f := fun n => M_l13_long_L1 y57 n x8.2.1 x8.2.2) rfl h; replace h : M_l13_long_L1 y57 (k64 + 1) x8.2.1 x8.2.2 = some o4 := h; rw [M_l13_long_L1] at h; refine aSq ?_; refine aRg ?_; intro _; refine dr_XDFmt ?_; refine aSq ?_; refine aCd ?_; intro _; refine spl h (fun c10 h => ?_) (fun c10 h => ?_)
          · refine aSk ?_; refine aSq ?_; refine aBk ?_; refine aSq ?_; refine aRg ?_; intro _; obtain ⟨y65, w11, q12, h⟩ := ix_ok h; refine Exists.intro (cS y65) (And.intro (map_at' w11) ?_); intro _; refine pr_XDFmt ?_; refine dr_XDFmt ?_; refine aRg ?_; intro _; refine dr_XDFmt ?_; refine aRg ?_; intro _; refine dr_XDFmt ?_; refine ⟨(k64, (IntKind.i64.wrap (x8.2.1 + (y65.size : Int))), (IntKind.i64.wrap (x8.2.2 + 1))), h, ltS m9, ?_⟩; exact ca_XDFmt
          · refine aEx ?_; refine ⟨x8.2.1, (Option.some.inj h).symm, ?_⟩; exact ca_XDFmt
      · rintro v55 ho; have ho := ho.symm; subst ho; intro _; replace h := hK5; refine aRg ?_; intro _; refine dr_XDFmt ?_; refine ⟨(k45, v55, (IntKind.i64.wrap (x1.2.2 + 1))), h, ltS m2, ?_⟩; exact ca_XDFmt
    · refine aEx ?_; refine aSq ?_; refine aRg ?_; intro _; refine dr_XDFmt ?_; refine aRt ?_; intro _; obtain rfl := inj1 h; exact ca_XDFmt
def M_planfile_named_L1 (a0 : GStep) : Nat → Int → Option (Bool)
  | 0, _ => none
  | k7 + 1, v6 =>
    sel (decide (v6 < ((a0.Args.map cS).length : Int)))
     (ix a0.Args v6 (fun y8 =>
       ob1 (M_formula_Name y8) (fun z9 =>
        sel (!z9)
         (some false)
         (M_planfile_named_L1 a0 k7 (IntKind.i64.wrap (v6 + 1))))))
     (ob1 (M_formula_Name a0.Name) (fun z10 =>
       some z10))
def M_planfile_named (a0 : GStep) : Option (Bool) :=
  M_planfile_named_L1 a0 ((((a0.Args.map cS).length : Int)).toNat + 1) 0
set_option maxHeartbeats 16000000 in
set_option maxRecDepth 100000 in
theorem A_planfile_named (a0 : GStep) {r1 : Bool} (h : M_planfile_named a0 = some r1) : ACall cx 35 [.agg [.c (.int .i64 a0.At), .c (.string a0.Name), .sl 1 (a0.Args.map cS)]] (.c (.bool r1)) := by
  refine aOf Tryd.func35 rfl (by decide) rfl (Nat.le_of_ble_eq_true rfl) ?_; intro _; unfold M_planfile_named at h; refine aSq ?_; refine aRg ?_; intro _; refine dr_XDFmt ?_; refine aSq ?_; refine aSq ?_; refine aRg ?_; intro _; refine dr_XDFmt ?_; refine aBk ?_; refine awp_loop (α := Nat × Int) (fun x => mkS 19 [(1, .ptr 1 0 0 0), (6, .sl 1 (a0.Args.map cS)), (7, .c (.int .i64 ((a0.Args.map cS).length : Int))), (8, .c (.int .i64 x.2))] [(1, ⟨37, 3, true, [[.c (.int .i64 a0.At), .c (.string a0.Name), .sl 1 (a0.Args.map cS)]]⟩)]) (fun x => M_planfile_named_L1 a0 x.1 x.2 = some r1) (fun x => x.1) ((((a0.Args.map cS).length : Int)).toNat + 1, 0) h ?_ ?_
  · exact ca_XDFmt
  · intro x1 h; intro _; obtain ⟨k7, m2, h⟩ := succ_of (f := fun n => M_planfile_named_L1 a0 n x1.2) rfl h; replace h : M_planfile_named_L1 a0 (k7 + 1) x1.2 = some r1 := h; rw [M_planfile_named_L1] at h; refine aSq ?_; refine aRg ?_; intro _; refine dr_XDFmt ?_; refine aSq ?_; refine aCd ?_; intro _; refine spl h (fun c3 h => ?_) (fun c3 h => ?_)
    · refine aSk ?_; refine aSq ?_; refine aBk ?_; refine aSq ?_; refine aRg ?_; intro _; obtain ⟨y8, w4, q5, h⟩ := ix_ok h; refine Exists.intro (cS y8) (And.intro (map_at' w4) ?_); intro _; refine pr_XDFmt ?_; refine dr_XDFmt ?_; refine aSq ?_; refine aRg ?_; intro _; obtain ⟨z9, u6, h⟩ := ob1_ok h; refine cl_XDFmt rfl (A_formula_Name y8 u6) ?_; intro _; refine dr_XDFmt ?_; refine aCd ?_; intro _; refine spl h (fun c7 h => ?_) (fun c7 h => ?_)
      · refine aSq ?_; refine aRg ?_; intro _; refine dr_XDFmt ?_; refine aRt ?_; intro _; obtain rfl := inj1 h; exact ca_XDFmt
      · refine aSk ?_; refine aRg ?_; intro _; refine dr_XDFmt ?_; refine ⟨(k7, (IntKind.i64.wrap (x1.2 + 1))), h, ltS m2, ?_⟩; exact ca_XDFmt
    · refine aEx ?_; refine aSq ?_; refine aRg ?_; intro _; obtain ⟨z10, u8, h⟩ := ob1_ok h; refine cl_XDFmt rfl (A_formula_Name a0.Name u8) ?_; intro _; refine dr_XDFmt ?_; refine aRt ?_; intro _; obtain rfl := inj1 h; exact ca_XDFmt
def M_planfile_Format_L1 (a0 : List GStep) : Nat → Int → Option (Unit ⊕ (ByteArray × Er))
  | 0, _ => none
  | k19 + 1, v18 =>
    sel (decide (v18 < ((a0.map cGStep).length : Int)))
     (ix a0 v18 (fun y20 =>
       ob1 (M_planfile_named y20) (fun z21 =>
        sel (!z21)
         (some (.inr ((⟨#[]⟩ : ByteArray), (Er.no 8))))
         (M_planfile_Format_L1 a0 k19 (IntKind.i64.wrap (v18 + 1))))))
     (some (.inl ()))
def M_planfile_Format_L2 (a0 : List GStep) (a1 : Bool) : Nat → Int → Option (Unit ⊕ (ByteArray × Er))
  | 0, _ => none
  | k35 + 1, v34 =>
    sel (decide (v34 < ((a0.map cGStep).length : Int)))
     (ix a0 v34 (fun y36 =>
       sel (decide (y36.At < 0))
        (some (.inr ((⟨#[]⟩ : ByteArray), (Er.no 1))))
        (sel (decide (y36.At > 1048576))
          (some (.inr ((⟨#[]⟩ : ByteArray), (Er.no 1))))
          (sel (!a1)
            (sel (y36.At != 0)
              (some (.inr ((⟨#[]⟩ : ByteArray), (Er.no 1))))
              (M_planfile_Format_L2 a0 a1 k35 (IntKind.i64.wrap (v34 + 1))))
            (M_planfile_Format_L2 a0 a1 k35 (IntKind.i64.wrap (v34 + 1)))))))
     (some (.inl ()))
def M_planfile_Format_L3 (a0 : List GStep) (a1 : Bool) : Nat → Int → ByteArray → Option (ByteArray × Er)
  | 0, _, _ => none
  | k73 + 1, v71, v72 =>
    sel (decide (v71 < ((a0.map cGStep).length : Int)))
     (ix a0 v71 (fun y74 =>
       ob1 (sel a1
         (ob1 (M_Itoa y74.At) (fun z81 =>
           ob3 (M_WriteString v72 (z81 ++ (⟨#[58, 32]⟩ : ByteArray))) (fun _ _ c84 =>
            grd (z81.size + (⟨#[58, 32]⟩ : ByteArray).size ≤ 9223372036854775807) (some c84))))
         (some v72) : Option (ByteArray))
        (fun v79 => grd (([y74.Name] ++ y74.Args).length ≤ 140737488355328) (ob1 (M_Join ([y74.Name] ++ y74.Args) (⟨#[32]⟩ : ByteArray)) (fun z85 =>
           ob3 (M_WriteString v79 (((⟨#[40]⟩ : ByteArray) ++ z85) ++ (⟨#[41, 10]⟩ : ByteArray))) (fun _ _ c88 =>
            grd ((1 + y74.Args.length) * 16 ≤ 140737488355328) (grd ((⟨#[40]⟩ : ByteArray).size + z85.size ≤ 9223372036854775807) (grd (((⟨#[40]⟩ : ByteArray) ++ z85).size + (⟨#[41, 10]⟩ : ByteArray).size ≤ 9223372036854775807) (ob1 (M_BuilderLen c88) (fun z89 =>
             sel (decide (z89 > 65536))
              (some ((⟨#[]⟩ : ByteArray), (Er.no 5)))
              (M_planfile_Format_L3 a0 a1 k73 (IntKind.i64.wrap (v71 + 1)) c88)))))))))))
     (ob1 (M_BuilderString v72) (fun z90 =>
       some (z90, Er.nil)))
def M_planfile_Format (a0 : List GStep) (a1 : Bool) : Option (ByteArray × Er) :=
  ob1 (M_planfile_Format_L1 a0 ((((a0.map cGStep).length : Int)).toNat + 1) 0 : Option (Unit ⊕ (ByteArray × Er)))
   (osum
   (fun _ => ob1 (M_planfile_Format_L2 a0 a1 ((((a0.map cGStep).length : Int)).toNat + 1) 0 : Option (Unit ⊕ (ByteArray × Er)))
      (osum
      (fun _ => M_planfile_Format_L3 a0 a1 ((((a0.map cGStep).length : Int)).toNat + 1) 0 (⟨#[]⟩ : ByteArray))
      (fun (r28, r29) => some (r28, r29))))
   (fun (r10, r11) => some (r10, r11)))
set_option maxHeartbeats 16000000 in
set_option maxRecDepth 100000 in
theorem A_planfile_Format (a0 : List GStep) (a1 : Bool) {r1 : ByteArray} {r2 : Er} (h : M_planfile_Format a0 a1 = some (r1, r2)) : ACall cx 18 [.sl 3 (a0.map cGStep), .c (.bool a1)] (.tup [.c (.string r1), eA r2]) := by
  refine aOf Tryd.func18 rfl (by decide) rfl (Nat.le_of_ble_eq_true rfl) ?_; intro _; unfold M_planfile_Format at h; refine aSq ?_; refine aRg ?_; intro _; refine dr_XDFmt ?_; obtain ⟨o1, h, hK2⟩ := ob1_ok h; refine awp_cut (α := Unit) (fun _ => mkS 76 [(0, .sl 3 (a0.map cGStep)), (1, .c (.bool a1))] []) (fun v => o1 = (.inl v)) ?_ ?_
  · refine aSq ?_; refine aRg ?_; intro _; refine dr_XDFmt ?_; refine aBk ?_; refine awp_loop (α := Nat × Int) (fun x => mkS 76 [(0, .sl 3 (a0.map cGStep)), (1, .c (.bool a1)), (13, .sl 3 (a0.map cGStep)), (14, .c (.int .i64 ((a0.map cGStep).length : Int))), (15, .c (.int .i64 x.2))] []) (fun x => M_planfile_Format_L1 a0 x.1 x.2 = some o1) (fun x => x.1) ((((a0.map cGStep).length : Int)).toNat + 1, 0) h ?_ ?_
    · exact ca_XDFmt
    · intro x3 h; intro _; obtain ⟨k19, m4, h⟩ := succ_of (f := fun n => M_planfile_Format_L1 a0 n x3.2) rfl h; replace h : M_planfile_Format_L1 a0 (k19 + 1) x3.2 = some o1 := h; rw [M_planfile_Format_L1] at h; refine aSq ?_; refine aRg ?_; intro _; refine dr_XDFmt ?_; refine aSq ?_; refine aCd ?_; intro _; refine spl h (fun c5 h => ?_) (fun c5 h => ?_)
      · refine aSk ?_; refine aSq ?_; refine aBk ?_; refine aSq ?_; refine aRg ?_; intro _; obtain ⟨y20, w6, q7, h⟩ := ix_ok h; refine Exists.intro (cGStep y20) (And.intro (map_at' w6) ?_); intro _; refine pr_XDFmt ?_; refine dr_XDFmt ?_; refine aSq ?_; refine aRg ?_; intro _; obtain ⟨z21, u8, h⟩ := ob1_ok h; refine cl_XDFmt rfl (A_planfile_named y20 u8) ?_; intro _; refine dr_XDFmt ?_; refine aCd ?_; intro _; refine spl h (fun c9 h => ?_) (fun c9 h => ?_)
        · refine aSq ?_; refine aRg ?_; intro _; refine dr_XDFmt ?_; refine aRt ?_; have j10 := Option.some.inj h; subst j10; replace h := (osum_r hK2); intro _; obtain ⟨rfl, rfl⟩ := inj2 h; exact ca_XDFmt
        · refine aSk ?_; refine aRg ?_; intro _; refine dr_XDFmt ?_; refine ⟨(k19, (IntKind.i64.wrap (x3.2 + 1))), h, ltS m4, ?_⟩; exact ca_XDFmt
      · refine aEx ?_; refine ⟨(), (Option.some.inj h).symm, ?_⟩; exact ca_XDFmt
  · rintro _ ho; have ho := ho.symm; subst ho; intro _; replace h := (osum_l hK2); refine aSq ?_; refine aRg ?_; intro _; refine dr_XDFmt ?_; obtain ⟨o11, h, hK12⟩ := ob1_ok h; refine awp_cut (α := Unit) (fun _ => mkS 76 [(0, .sl 3 (a0.map cGStep)), (1, .c (.bool a1)), (8, .ptr 8 0 0 0)] [(8, ⟨68, 2, true, [[.c (.pointer none), .c (.slice none 0 0)]]⟩)]) (fun v => o11 = (.inl v)) ?_ ?_
    · refine aSq ?_; refine aRg ?_; intro _; refine dr_XDFmt ?_; refine aBk ?_; refine awp_loop (α := Nat × Int) (fun x => mkS 76 [(0, .sl 3 (a0.map cGStep)), (1, .c (.bool a1)), (8, .ptr 8 0 0 0), (24, .sl 3 (a0.map cGStep)), (25, .c (.int .i64 ((a0.map cGStep).length : Int))), (26, .c (.int .i64 x.2))] [(8, ⟨68, 2, true, [[.c (.pointer none), .c (.slice none 0 0)]]⟩)]) (fun x => M_planfile_Format_L2 a0 a1 x.1 x.2 = some o11) (fun x => x.1) ((((a0.map cGStep).length : Int)).toNat + 1, 0) h ?_ ?_
      · exact ca_XDFmt
      · intro x13 h; intro _; obtain ⟨k35, m14, h⟩ := succ_of (f := fun n => M_planfile_Format_L2 a0 a1 n x13.2) rfl h; replace h : M_planfile_Format_L2 a0 a1 (k35 + 1) x13.2 = some o11 := h; rw [M_planfile_Format_L2] at h; refine aSq ?_; refine aRg ?_; intro _; refine dr_XDFmt ?_; refine aSq ?_; refine aCd ?_; intro _; refine spl h (fun c15 h => ?_) (fun c15 h => ?_)
        · refine aSk ?_; refine aSq ?_; refine aBk ?_; refine aSq ?_; refine aRg ?_; intro _; obtain ⟨y36, w16, q17, h⟩ := ix_ok h; refine Exists.intro (cGStep y36) (And.intro (map_at' w16) ?_); intro _; refine pr_XDFmt ?_; refine dr_XDFmt ?_; refine aSq ?_; refine aRg ?_; intro _; refine spf h (fun c18 h => ?_) (fun c18 h => ?_)
          · intro _; refine spf h (fun c19 h => ?_) (fun c19 h => ?_)
            · intro _; refine spl h (fun c20 h => ?_) (fun c20 h => ?_)
              · intro _; refine dr_XDFmt ?_; refine aCd ?_; intro _; refine spl h (fun c21 h => ?_) (fun c21 h => ?_)
                · refine aSq ?_; refine aRg ?_; intro _; refine dr_XDFmt ?_; refine aRt ?_; have j22 := Option.some.inj h; subst j22; replace h := (osum_r hK12); intro _; obtain ⟨rfl, rfl⟩ := inj2 h; exact ca_XDFmt
                · refine aSk ?_; refine aRg ?_; intro _; refine dr_XDFmt ?_; refine ⟨(k35, (IntKind.i64.wrap (x13.2 + 1))), h, ltS m14, ?_⟩; exact ca_XDFmt
              · intro _; refine dr_XDFmt ?_; refine aCd ?_; intro _; refine litF ?_; refine aSk ?_; refine aRg ?_; intro _; refine dr_XDFmt ?_; refine ⟨(k35, (IntKind.i64.wrap (x13.2 + 1))), h, ltS m14, ?_⟩; exact ca_XDFmt
            · intro _; refine dr_XDFmt ?_; refine aCd ?_; intro _; refine litT ?_; refine aSq ?_; refine aRg ?_; intro _; refine dr_XDFmt ?_; refine aRt ?_; have j23 := Option.some.inj h; subst j23; replace h := (osum_r hK12); intro _; obtain ⟨rfl, rfl⟩ := inj2 h; exact ca_XDFmt
          · intro _; refine dr_XDFmt ?_; refine aCd ?_; intro _; refine litT ?_; refine aSq ?_; refine aRg ?_; intro _; refine dr_XDFmt ?_; refine aRt ?_; have j24 := Option.some.inj h; subst j24; replace h := (osum_r hK12); intro _; obtain ⟨rfl, rfl⟩ := inj2 h; exact ca_XDFmt
        · refine aEx ?_; refine ⟨(), (Option.some.inj h).symm, ?_⟩; exact ca_XDFmt
    · rintro _ ho; have ho := ho.symm; subst ho; intro _; replace h := (osum_l hK12); refine aSq ?_; refine aSq ?_; refine aRg ?_; intro _; refine dr_XDFmt ?_; refine aBk ?_; refine awp_loop (α := Nat × Int × ByteArray) (fun x => mkS 76 [(1, .c (.bool a1)), (8, .ptr 8 0 0 0), (49, .sl 3 (a0.map cGStep)), (50, .c (.int .i64 ((a0.map cGStep).length : Int))), (51, .c (.int .i64 x.2.1))] [(0, ⟨5, 1, false, (bys x.2.2).map c_u8⟩), (8, ⟨68, 2, true, [[.ptrO 8 0 0 0, .own 0 0 0 ((bys x.2.2).length)]]⟩)]) (fun x => M_planfile_Format_L3 a0 a1 x.1 x.2.1 x.2.2 = some (r1, r2)) (fun x => x.1) ((((a0.map cGStep).length : Int)).toNat + 1, 0, (⟨#[]⟩ : ByteArray)) h ?_ ?_
      · exact ca_XDFmt
      · intro x25 h; intro _; obtain ⟨k73, m26, h⟩ := succ_of (f := fun n => M_planfile_Format_L3 a0 a1 n x25.2.1 x25.2.2) rfl h; replace h : M_planfile_Format_L3 a0 a1 (k73 + 1) x25.2.1 x25.2.2 = some (r1, r2) := h; rw [M_planfile_Format_L3] at h; refine aSq ?_; refine aRg ?_; intro _; refine dr_XDFmt ?_; refine aSq ?_; refine aCd ?_; intro _; refine spl h (fun c27 h => ?_) (fun c27 h => ?_)
        · refine aSk ?_; refine aSq ?_; refine aBk ?_; refine aSq ?_; refine aRg ?_; intro _; obtain ⟨y74, w28, q29, h⟩ := ix_ok h; refine Exists.intro (cGStep y74) (And.intro (map_at' w28) ?_); intro _; refine pr_XDFmt ?_; refine dr_XDFmt ?_; obtain ⟨o30, h, hK31⟩ := ob1_ok h; refine awp_cut (α := ByteArray) (fun v79 => mkS 76 [(1, .c (.bool a1)), (8, .ptr 8 0 0 0), (12, .ptr 12 0 0 0), (49, .sl 3 (a0.map cGStep)), (50, .c (.int .i64 ((a0.map cGStep).length : Int))), (51, .c (.int .i64 x25.2.1))] [(0, ⟨5, 1, false, (bys v79).map c_u8⟩), (8, ⟨68, 2, true, [[.ptrO 8 0 0 0, .own 0 0 0 ((bys v79).length)]]⟩), (12, ⟨37, 3, true, [[.c (.int .i64 y74.At), .c (.string y74.Name), .sl 1 (y74.Args.map cS)]]⟩)]) (fun v => o30 = v) ?_ ?_
          · refine aSq ?_; refine aRg ?_; intro _; refine dr_XDFmt ?_; refine aCd ?_; intro _; refine spl h (fun c32 h => ?_) (fun c32 h => ?_)
            · refine aRg ?_; intro _; obtain ⟨z81, u33, h⟩ := ob1_ok h; refine cl_XDFmt rfl (A_Itoa y74.At u33) ?_; intro _; obtain ⟨z82, z83, c84, u34, h⟩ := ob3_ok h; refine clg_XDFmt [(900, 8), (901, 0)] [] [(0, ⟨1, none⟩)] [(8, ⟨0, some ⟨68, 2, true, [[.ptrO 8 0 0 0, .own 0 2 0 ((bys c84).length)]]⟩⟩), (0, ⟨2, some ⟨5, 1, false, (bys c84).map c_u8⟩⟩)] (.tup [.c (.int .i64 z82), eA z83]) rfl rfl (A_WriteString x25.2.2 (z81 ++ (⟨#[58, 32]⟩ : ByteArray)) u34) ?_; intro _; obtain ⟨q35, h⟩ := grd_ok h; refine pr_XDFmt ?_; refine dr_XDFmt ?_; refine ⟨c84, (Option.some.inj h).symm, ?_⟩; exact ca_XDFmt
            · refine aSk ?_; refine ⟨x25.2.2, (Option.some.inj h).symm, ?_⟩; exact ca_XDFmt
          · rintro v79 ho; have ho := ho.symm; subst ho; intro _; replace h := hK31; refine aSq ?_; refine aRg ?_; intro _; obtain ⟨q36, h⟩ := grd_ok h; obtain ⟨z85, u37, h⟩ := ob1_ok h; refine clb_XDFmt [63] rfl rfl (A_Join ([y74.Name] ++ y74.Args) (⟨#[32]⟩ : ByteArray) u37) ?_; intro _; obtain ⟨z86, z87, c88, u38, h⟩ := ob3_ok h; refine clg_XDFmt [(900, 8), (901, 0)] [] [(0, ⟨1, none⟩)] [(8, ⟨0, some ⟨68, 2, true, [[.ptrO 8 0 0 0, .own 0 2 0 ((bys c88).length)]]⟩⟩), (0, ⟨2, some ⟨5, 1, false, (bys c88).map c_u8⟩⟩)] (.tup [.c (.int .i64 z86), eA z87]) rfl rfl (A_WriteString v79 (((⟨#[40]⟩ : ByteArray) ++ z85) ++ (⟨#[41, 10]⟩ : ByteArray)) u38) ?_; intro _; obtain ⟨q39, h⟩ := grd_ok h; obtain ⟨q40, h⟩ := grd_ok h; obtain ⟨q41, h⟩ := grd_ok h; refine pl_XDFmt ?_; refine And.intro (by first | with_reducible assumption | (show (1 + y74.Args.length) * 16 ≤ 140737488355328; with_reducible assumption) | omega | (simp; omega)) ?_; refine pe_XDFmt ?_; refine pr_XDFmt ?_; refine pr_XDFmt ?_; refine dr_XDFmt ?_; refine aSq ?_; refine aRg ?_; intro _; obtain ⟨z89, u42, h⟩ := ob1_ok h; refine clk_XDFmt [(900, 8), (901, 0)] [(8, ⟨0, some ⟨68, 2, true, [[.ptrO 8 0 0 0, .own 0 2 0 ((bys c88).length)]]⟩⟩), (0, ⟨2, some ⟨5, 1, false, (bys c88).map c_u8⟩⟩)] (.c (.int .i64 z89)) rfl rfl (A_BuilderLen c88 u42) ?_; intro _; refine dr_XDFmt ?_; refine aCd ?_; intro _; refine spl h (fun c43 h => ?_) (fun c43 h => ?_)
            · refine aSq ?_; refine aRg ?_; intro _; refine dr_XDFmt ?_; refine aRt ?_; intro _; obtain ⟨rfl, rfl⟩ := inj2 h; exact ca_XDFmt
            · refine aSk ?_; refine aRg ?_; intro _; refine dr_XDFmt ?_; refine ⟨(k73, (IntKind.i64.wrap (x25.2.1 + 1)), c88), h, ltS m26, ?_⟩; exact ca_XDFmt
        · refine aEx ?_; refine aSq ?_; refine aRg ?_; intro _; obtain ⟨z90, u44, h⟩ := ob1_ok h; refine clg_XDFmt [(900, 8), (901, 0)] [] [(0, ⟨1, none⟩), (8, ⟨1, none⟩)] [] (.c (.string z90)) rfl rfl (A_BuilderString x25.2.2 u44) ?_; intro _; refine dr_XDFmt ?_; refine aRt ?_; intro _; obtain ⟨rfl, rfl⟩ := inj2 h; exact ca_XDFmt
def M_r13_Number : Nat → Int → Option (ByteArray)
  | 0, _ => none
  | g + 1, a0 =>
    sel (decide (a0 < 10))
   (some (strOfNums [(IntKind.u8.wrap (IntKind.i64.wrap (48 + a0)))]))
   (ob1 ((M_r13_Number g) (IntKind.i64.wrap (a0.tdiv 10))) (fun z1 =>
     grd (10 ≠ 0) (grd (z1.size + (strOfNums [(IntKind.u8.wrap (IntKind.i64.wrap (48 + (a0.tmod 10))))]).size ≤ 9223372036854775807) (some (z1 ++ (strOfNums [(IntKind.u8.wrap (IntKind.i64.wrap (48 + (a0.tmod 10))))]))))))
def M_l13_PlanfileComments_L1 (a2 : List Int) (z13 : ByteArray) : Nat → ByteArray → Bool → Int → Option (ByteArray)
  | 0, _, _, _ => none
  | k99 + 1, v96, v97, v98 =>
    sel (decide (v98 < (z13.size : Int)))
     (ob1 (sel (decide (((a2.map c_u8).length : Int) > 0))
        (ix a2 (v98.tmod ((a2.map c_u8).length : Int)) (fun y103 =>
          grd (((a2.map c_u8).length : Int) ≠ 0) (some y103)))
        (some 0) : Option (Int))
       (fun v101 => ob1 (sel v97
           (ixn [(⟨#[]⟩ : ByteArray), (⟨#[]⟩ : ByteArray), (⟨#[10]⟩ : ByteArray), (⟨#[59, 32, 40, 120, 41, 32, 121, 10]⟩ : ByteArray), (⟨#[9, 32, 10]⟩ : ByteArray), (⟨#[32]⟩ : ByteArray), (⟨#[9]⟩ : ByteArray)] (((v101.tmod 7)).toNat) (fun y108 =>
             grd (7 ≠ 0) (grd (0 ≤ (v101.tmod 7)) (grd ((v101.tmod 7) < ((7 : Nat) : Int)) (grd (v96.size + y108.size ≤ 9223372036854775807) (some ((v96 ++ y108), false)))))))
           (some (v96, v97)) : Option (ByteArray × Bool))
          (fun (v105, v106) => grd (0 ≤ v98) (grd (v98 < (z13.size : Int)) (sel ((byt z13 v98) == 32)
             (ixn [(⟨#[32]⟩ : ByteArray), (⟨#[32]⟩ : ByteArray), (⟨#[32, 32]⟩ : ByteArray), (⟨#[32, 9]⟩ : ByteArray)] (((v101.tmod 4)).toNat) (fun y109 =>
               grd (4 ≠ 0) (grd (0 ≤ (v101.tmod 4)) (grd ((v101.tmod 4) < ((4 : Nat) : Int)) (grd (v105.size + y109.size ≤ 9223372036854775807) (M_l13_PlanfileComments_L1 a2 z13 k99 (v105 ++ y109) v106 (IntKind.i64.wrap (v98 + 1))))))))
             (sel ((byt z13 v98) == 40)
               (ixn [(⟨#[40]⟩ : ByteArray), (⟨#[40, 32]⟩ : ByteArray), (⟨#[32, 40]⟩ : ByteArray)] (((v101.tmod 3)).toNat) (fun y110 =>
                 grd (3 ≠ 0) (grd (0 ≤ (v101.tmod 3)) (grd ((v101.tmod 3) < ((3 : Nat) : Int)) (grd (v105.size + y110.size ≤ 9223372036854775807) (M_l13_PlanfileComments_L1 a2 z13 k99 (v105 ++ y110) v106 (IntKind.i64.wrap (v98 + 1))))))))
               (sel ((byt z13 v98) == 41)
                 (ixn [(⟨#[41]⟩ : ByteArray), (⟨#[32, 41]⟩ : ByteArray), (⟨#[41, 32]⟩ : ByteArray), (⟨#[41, 13]⟩ : ByteArray)] (((v101.tmod 4)).toNat) (fun y111 =>
                   grd (4 ≠ 0) (grd (0 ≤ (v101.tmod 4)) (grd ((v101.tmod 4) < ((4 : Nat) : Int)) (grd (v105.size + y111.size ≤ 9223372036854775807) (M_l13_PlanfileComments_L1 a2 z13 k99 (v105 ++ y111) v106 (IntKind.i64.wrap (v98 + 1))))))))
                 (ob1 (sel (decide ((byt z13 v98) ≥ 97))
                    (sel (decide ((byt z13 v98) ≤ 122))
                      (grd (2 ≠ 0) (some ((v101.tmod 2) == 1)))
                      (some false))
                    (some false) : Option (Bool))
                   (fun v112 => sel v112
                      (grd (v105.size + (strOfNums [(IntKind.u8.wrap ((byt z13 v98) - 32))]).size ≤ 9223372036854775807) (M_l13_PlanfileComments_L1 a2 z13 k99 (v105 ++ (strOfNums [(IntKind.u8.wrap ((byt z13 v98) - 32))])) v106 (IntKind.i64.wrap (v98 + 1))))
                      (grd (v105.size + (strOfNums [(byt z13 v98)]).size ≤ 9223372036854775807) (M_l13_PlanfileComments_L1 a2 z13 k99 (v105 ++ (strOfNums [(byt z13 v98)])) ((byt z13 v98) == 10) (IntKind.i64.wrap (v98 + 1)))))))))))))
     (some v96)
def M_l13_PlanfileComments (a0 : List GStep) (a1 : Bool) (a2 : List Int) : Option (Bool) :=
  ob1 (ob1 (M_l13_long a0) (fun z8 =>
    sel z8
     (ob1 (M_l13_awake) (fun z12 =>
       some (.inr z12)))
     (sel (decide (((a2.map c_u8).length : Int) > 100))
       (ob1 (M_l13_awake) (fun z11 =>
         some (.inr z11)))
       (ob1 (M_l13_awake) (fun z9 =>
         sel (!z9)
          (ob1 (M_l13_awake) (fun z10 =>
            some (.inr z10)))
          (some (.inl ())))))) : Option (Unit ⊕ Bool))
   (osum
   (fun _ => ob2 (M_planfile_Format a0 a1) (fun z13 z14 =>
      erM z14
       (ob1 (M_l13_PlanfileComments_L1 a2 z13 (((z13.size : Int)).toNat + 1) (⟨#[]⟩ : ByteArray) true 0 : Option (ByteArray))
         (fun v64 => ob3 (M_planfile_Parse (v64 ++ (⟨#[10, 59]⟩ : ByteArray)) a1) (fun z114 _ z116 =>
            grd (v64.size + (⟨#[10, 59]⟩ : ByteArray).size ≤ 9223372036854775807) (erM z116
             (ob1 (M_l13_Same z114 a0) (fun z118 =>
               some z118))
             (fun _ => some false)))))
       (fun _ => some true)))
   (fun r6 => some r6))
set_option maxHeartbeats 16000000 in
set_option maxRecDepth 100000 in
theorem A_l13_PlanfileComments (a0 : List GStep) (a1 : Bool) (a2 : List Int) {r1 : Bool} (h : M_l13_PlanfileComments a0 a1 a2 = some r1) : ACall cx 8 [.sl 3 (a0.map cGStep), .c (.bool a1), .sl 1 (a2.map c_u8)] (.c (.bool r1)) := by
  refine aOf Tryd.func8 rfl (by decide) rfl (Nat.le_of_ble_eq_true rfl) ?_; intro _; unfold M_l13_PlanfileComments at h; refine aSq ?_; refine aRg ?_; intro _; refine dr_XDFmt ?_; obtain ⟨o1, h, hK2⟩ := ob1_ok h; refine awp_cut (α := Unit) (fun _ => mkS 133 [(0, .sl 3 (a0.map cGStep)), (1, .c (.bool a1)), (2, .sl 1 (a2.map c_u8))] []) (fun v => o1 = (.inl v)) ?_ ?_
  · refine aSq ?_; refine aRg ?_; intro _; obtain ⟨z8, u3, h⟩ := ob1_ok h; refine cl_XDFmt rfl (A_l13_long a0 u3) ?_; intro _; refine spf h (fun c4 h => ?_) (fun c4 h => ?_)
    · intro _; refine spf h (fun c5 h => ?_) (fun c5 h => ?_)
      · intro _; obtain ⟨z9, u6, h⟩ := ob1_ok h; refine cl_XDFmt rfl (A_l13_awake u6) ?_; intro _; refine dr_XDFmt ?_; refine aCd ?_; intro _; refine spl h (fun c7 h => ?_) (fun c7 h => ?_)
        · refine aSq ?_; refine aRg ?_; intro _; obtain ⟨z10, u8, h⟩ := ob1_ok h; refine cl_XDFmt rfl (A_l13_awake u8) ?_; intro _; refine dr_XDFmt ?_; refine aRt ?_; have j9 := Option.some.inj h; subst j9; replace h := (osum_r hK2); intro _; obtain rfl := inj1 h; exact ca_XDFmt
        · refine aSk ?_; refine ⟨(), (Option.some.inj h).symm, ?_⟩; exact ca_XDFmt
      · intro _; refine dr_XDFmt ?_; refine aCd ?_; intro _; refine litT ?_; refine aSq ?_; refine aRg ?_; intro _; obtain ⟨z11, u10, h⟩ := ob1_ok h; refine cl_XDFmt rfl (A_l13_awake u10) ?_; intro _; refine dr_XDFmt ?_; refine aRt ?_; have j11 := Option.some.inj h; subst j11; replace h := (osum_r hK2); intro _; obtain rfl := inj1 h; exact ca_XDFmt
    · intro _; refine dr_XDFmt ?_; refine aCd ?_; intro _; refine litT ?_; refine aSq ?_; refine aRg ?_; intro _; obtain ⟨z12, u12, h⟩ := ob1_ok h; refine cl_XDFmt rfl (A_l13_awake u12) ?_; intro _; refine dr_XDFmt ?_; refine aRt ?_; have j13 := Option.some.inj h; subst j13; replace h := (osum_r hK2); intro _; obtain rfl := inj1 h; exact ca_XDFmt
  · rintro _ ho; have ho := ho.symm; subst ho; intro _; replace h := (osum_l hK2); refine aSq ?_; refine aRg ?_; intro _; obtain ⟨z13, z14, u14, h⟩ := ob2_ok h; refine cl_XDFmt rfl (A_planfile_Format a0 a1 u14) ?_; intro _; refine dr_XDFmt ?_; refine aSq ?_; refine aSq ?_; rcases z14 with _ | e15
    · replace h := erM_nil h; refine aRg ?_; intro _; refine dr_XDFmt ?_; refine aCd ?_; intro _; refine litF ?_; refine aSk ?_; refine aSq ?_; refine aRg ?_; intro _; refine dr_XDFmt ?_; obtain ⟨o15, h, hK16⟩ := ob1_ok h; refine awp_cut (α := ByteArray) (fun v64 => mkS 133 [(0, .sl 3 (a0.map cGStep)), (1, .c (.bool a1)), (9, .c (.string v64))] []) (fun v => o15 = v) ?_ ?_
      · refine aSq ?_; refine aRg ?_; intro _; refine dr_XDFmt ?_; refine aBk ?_; refine awp_loop (α := Nat × ByteArray × Bool × Int) (fun x => mkS 133 [(0, .sl 3 (a0.map cGStep)), (1, .c (.bool a1)), (2, .sl 1 (a2.map c_u8)), (7, .c (.string z13)), (9, .c (.string x.2.1)), (10, .c (.bool x.2.2.1)), (37, .c (.int .i64 (z13.size : Int))), (38, .c (.int .i64 x.2.2.2))] []) (fun x => M_l13_PlanfileComments_L1 a2 z13 x.1 x.2.1 x.2.2.1 x.2.2.2 = some o15) (fun x => x.1) (((z13.size : Int)).toNat + 1, (⟨#[]⟩ : ByteArray), true, 0) h ?_ ?_
        · exact ca_XDFmt
        · intro x17 h; intro _; obtain ⟨k99, m18, h⟩ := succ_of (f := fun n => M_l13_PlanfileComments_L1 a2 z13 n x17.2.1 x17.2.2.1 x17.2.2.2) rfl h; replace h : M_l13_PlanfileComments_L1 a2 z13 (k99 + 1) x17.2.1 x17.2.2.1 x17.2.2.2 = some o15 := h; rw [M_l13_PlanfileComments_L1] at h; refine aSq ?_; refine aRg ?_; intro _; refine dr_XDFmt ?_; refine aSq ?_; refine aCd ?_; intro _; refine spl h (fun c19 h => ?_) (fun c19 h => ?_)
          · refine aSk ?_; refine aSq ?_; refine aBk ?_; refine aSq ?_; refine aRg ?_; intro _; refine dr_XDFmt ?_; refine aSq ?_; refine aRg ?_; intro _; refine dr_XDFmt ?_; obtain ⟨o20, h, hK21⟩ := ob1_ok h; refine awp_cut (α := Int) (fun v101 => mkS 133 [(0, .sl 3 (a0.map cGStep)), (1, .c (.bool a1)), (2, .sl 1 (a2.map c_u8)), (7, .c (.string z13)), (9, .c (.string x17.2.1)), (10, .c (.bool x17.2.2.1)), (11, .c (.int .i64 x17.2.2.2)), (12, .c (.int .u8 v101)), (37, .c (.int .i64 (z13.size : Int))), (38, .c (.int .i64 x17.2.2.2))] []) (fun v => o20 = v) ?_ ?_
            · refine aSq ?_; refine aRg ?_; intro _; refine dr_XDFmt ?_; refine aCd ?_; intro _; refine spl h (fun c22 h => ?_) (fun c22 h => ?_)
              · refine aRg ?_; intro _; obtain ⟨y103, w23, q24, h⟩ := ix_ok h; refine Exists.intro (c_u8 y103) (And.intro (map_at' w23) ?_); intro _; obtain ⟨q25, h⟩ := grd_ok h; refine ⟨rfl, ?_⟩; refine pr_XDFmt ?_; refine pr_XDFmt ?_; refine dr_XDFmt ?_; refine ⟨y103, (Option.some.inj h).symm, ?_⟩; exact ca_XDFmt
              · refine aSk ?_; refine ⟨0, (Option.some.inj h).symm, ?_⟩; exact ca_XDFmt
            · rintro v101 ho; have ho := ho.symm; subst ho; intro _; replace h := hK21; obtain ⟨o26, h, hK27⟩ := ob1_ok h; refine awp_cut (α := ByteArray × Bool) (fun (v105, v106) => mkS 133 [(0, .sl 3 (a0.map cGStep)), (1, .c (.bool a1)), (2, .sl 1 (a2.map c_u8)), (7, .c (.string z13)), (9, .c (.string v105)), (10, .c (.bool v106)), (11, .c (.int .i64 x17.2.2.2)), (12, .c (.int .u8 v101)), (37, .c (.int .i64 (z13.size : Int))), (38, .c (.int .i64 x17.2.2.2))] []) (fun v => o26 = v) ?_ ?_
              · refine aSq ?_; refine aRg ?_; intro _; refine dr_XDFmt ?_; refine aCd ?_; intro _; refine spl h (fun c28 h => ?_) (fun c28 h => ?_)
                · refine aSq ?_; refine aRg ?_; intro _; obtain ⟨y108, w29, h⟩ := ixn_ok h; refine Exists.intro (cS y108) (And.intro (by first | exact map_at' w29 | (have w := map_at' (f := cS) w29; simpa [cS] using w)) ?_); intro _; obtain ⟨q30, h⟩ := grd_ok h; obtain ⟨q31, h⟩ := grd_ok h; obtain ⟨q32, h⟩ := grd_ok h; obtain ⟨q33, h⟩ := grd_ok h; refine ⟨rfl, ?_⟩; refine pr_XDFmt ?_; refine pr_XDFmt ?_; refine pr_XDFmt ?_; refine pr_XDFmt ?_; refine dr_XDFmt ?_; refine aRg ?_; intro _; refine dr_XDFmt ?_; refine ⟨((x17.2.1 ++ y108), false), (Option.some.inj h).symm, ?_⟩; exact ca_XDFmt
                · refine aSk ?_; refine ⟨(x17.2.1, x17.2.2.1), (Option.some.inj h).symm, ?_⟩; exact ca_XDFmt
              · rintro ⟨v105, v106⟩ ho; have ho := ho.symm; subst ho; intro _; replace h := hK27; refine aSq ?_; refine aRg ?_; intro _; obtain ⟨q34, h⟩ := grd_ok h; obtain ⟨q35, h⟩ := grd_ok h; refine pr_XDFmt ?_; refine pr_XDFmt ?_; refine dr_XDFmt ?_; refine aBk ?_; refine aSq ?_; refine aRg ?_; intro _; refine dr_XDFmt ?_; refine aCd ?_; intro _; refine spl h (fun c36 h => ?_) (fun c36 h => ?_)
                · refine aRg ?_; intro _; obtain ⟨y109, w37, h⟩ := ixn_ok h; refine Exists.intro (cS y109) (And.intro (by first | exact map_at' w37 | (have w := map_at' (f := cS) w37; simpa [cS] using w)) ?_); intro _; obtain ⟨q38, h⟩ := grd_ok h; obtain ⟨q39, h⟩ := grd_ok h; obtain ⟨q40, h⟩ := grd_ok h; obtain ⟨q41, h⟩ := grd_ok h; refine ⟨rfl, ?_⟩; refine pr_XDFmt ?_; refine pr_XDFmt ?_; refine pr_XDFmt ?_; refine pr_XDFmt ?_; refine dr_XDFmt ?_; refine aRg ?_; intro _; refine dr_XDFmt ?_; refine ⟨(k99, (v105 ++ y109), v106, (IntKind.i64.wrap (x17.2.2.2 + 1))), h, ltS m18, ?_⟩; exact ca_XDFmt
                · refine aSq ?_; refine aRg ?_; intro _; refine dr_XDFmt ?_; refine aCd ?_; intro _; refine spl h (fun c42 h => ?_) (fun c42 h => ?_)
                  · refine aRg ?_; intro _; obtain ⟨y110, w43, h⟩ := ixn_ok h; refine Exists.intro (cS y110) (And.intro (by first | exact map_at' w43 | (have w := map_at' (f := cS) w43; simpa [cS] using w)) ?_); intro _; obtain ⟨q44, h⟩ := grd_ok h; obtain ⟨q45, h⟩ := grd_ok h; obtain ⟨q46, h⟩ := grd_ok h; obtain ⟨q47, h⟩ := grd_ok h; refine ⟨rfl, ?_⟩; refine pr_XDFmt ?_; refine pr_XDFmt ?_; refine pr_XDFmt ?_; refine pr_XDFmt ?_; refine dr_XDFmt ?_; refine aRg ?_; intro _; refine dr_XDFmt ?_; refine ⟨(k99, (v105 ++ y110), v106, (IntKind.i64.wrap (x17.2.2.2 + 1))), h, ltS m18, ?_⟩; exact ca_XDFmt
                  · refine aSq ?_; refine aRg ?_; intro _; refine dr_XDFmt ?_; refine aCd ?_; intro _; refine spl h (fun c48 h => ?_) (fun c48 h => ?_)
                    · refine aRg ?_; intro _; obtain ⟨y111, w49, h⟩ := ixn_ok h; refine Exists.intro (cS y111) (And.intro (by first | exact map_at' w49 | (have w := map_at' (f := cS) w49; simpa [cS] using w)) ?_); intro _; obtain ⟨q50, h⟩ := grd_ok h; obtain ⟨q51, h⟩ := grd_ok h; obtain ⟨q52, h⟩ := grd_ok h; obtain ⟨q53, h⟩ := grd_ok h; refine ⟨rfl, ?_⟩; refine pr_XDFmt ?_; refine pr_XDFmt ?_; refine pr_XDFmt ?_; refine pr_XDFmt ?_; refine dr_XDFmt ?_; refine aRg ?_; intro _; refine dr_XDFmt ?_; refine ⟨(k99, (v105 ++ y111), v106, (IntKind.i64.wrap (x17.2.2.2 + 1))), h, ltS m18, ?_⟩; exact ca_XDFmt
                    · obtain ⟨o54, h, hK55⟩ := ob1_ok h; refine awp_cut (α := Bool) (fun v112 => mkS 133 [(0, .sl 3 (a0.map cGStep)), (1, .c (.bool a1)), (2, .sl 1 (a2.map c_u8)), (7, .c (.string z13)), (9, .c (.string v105)), (10, .c (.bool v106)), (13, .c (.int .u8 (byt z13 x17.2.2.2))), (37, .c (.int .i64 (z13.size : Int))), (38, .c (.int .i64 x17.2.2.2)), (99, .c (.bool v112))] []) (fun v => o54 = v) ?_ ?_
                      · refine aRg ?_; intro _; refine spl h (fun c56 h => ?_) (fun c56 h => ?_)
                        · intro _; refine spl h (fun c57 h => ?_) (fun c57 h => ?_)
                          · intro _; obtain ⟨q58, h⟩ := grd_ok h; refine ⟨rfl, ?_⟩; refine pr_XDFmt ?_; refine dr_XDFmt ?_; refine ⟨((v101.tmod 2) == 1), (Option.some.inj h).symm, ?_⟩; exact ca_XDFmt
                          · intro _; refine dr_XDFmt ?_; refine ⟨false, (Option.some.inj h).symm, ?_⟩; exact ca_XDFmt
                        · intro _; refine dr_XDFmt ?_; refine ⟨false, (Option.some.inj h).symm, ?_⟩; exact ca_XDFmt
                      · rintro v112 ho; have ho := ho.symm; subst ho; intro _; replace h := hK55; refine aCd ?_; intro _; refine spl h (fun c59 h => ?_) (fun c59 h => ?_)
                        · refine aRg ?_; intro _; refine ⟨_, lf_str (xs := [(IntKind.u8.wrap ((byt z13 x17.2.2.2) - 32))]) rfl (Nat.le_of_ble_eq_true rfl) rfl rfl rfl rfl (by first | rfl | simp) (tyTab_ok 43 _ rfl) rfl (tyTab_ok 9 _ rfl) rfl Tryd.underlying5, ?_⟩; intro _; obtain ⟨q60, h⟩ := grd_ok h; refine pr_XDFmt ?_; refine dr_XDFmt ?_; refine aRg ?_; intro _; refine dr_XDFmt ?_; refine ⟨(k99, (v105 ++ (strOfNums [(IntKind.u8.wrap ((byt z13 x17.2.2.2) - 32))])), v106, (IntKind.i64.wrap (x17.2.2.2 + 1))), h, ltS m18, ?_⟩; exact ca_XDFmt
                        · refine aSq ?_; refine aRg ?_; intro _; refine ⟨_, lf_str (xs := [(byt z13 x17.2.2.2)]) rfl (Nat.le_of_ble_eq_true rfl) rfl rfl rfl rfl (by first | rfl | simp) (tyTab_ok 43 _ rfl) rfl (tyTab_ok 9 _ rfl) rfl Tryd.underlying5, ?_⟩; intro _; obtain ⟨q61, h⟩ := grd_ok h; refine pr_XDFmt ?_; refine dr_XDFmt ?_; refine aRg ?_; intro _; refine dr_XDFmt ?_; refine aRg ?_; intro _; refine dr_XDFmt ?_; refine ⟨(k99, (v105 ++ (strOfNums [(byt z13 x17.2.2.2)])), ((byt z13 x17.2.2.2) == 10), (IntKind.i64.wrap (x17.2.2.2 + 1))), h, ltS m18, ?_⟩; exact ca_XDFmt
          · refine aEx ?_; refine ⟨x17.2.1, (Option.some.inj h).symm, ?_⟩; exact ca_XDFmt
      · rintro v64 ho; have ho := ho.symm; subst ho; intro _; replace h := hK16; refine aSq ?_; refine aRg ?_; intro _; obtain ⟨z114, z115, z116, u62, h⟩ := ob3_ok h; refine cl_XDFmt rfl (A_planfile_Parse (v64 ++ (⟨#[10, 59]⟩ : ByteArray)) a1 u62) ?_; intro _; obtain ⟨q63, h⟩ := grd_ok h; refine pr_XDFmt ?_; refine dr_XDFmt ?_; refine aSq ?_; rcases z116 with _ | e117
        · replace h := erM_nil h; refine aRg ?_; intro _; refine litT ?_; intro _; obtain ⟨z118, u64, h⟩ := ob1_ok h; refine cl_XDFmt rfl (A_l13_Same z114 a0 u64) ?_; intro _; refine dr_XDFmt ?_; refine aRt ?_; intro _; obtain rfl := inj1 h; exact ca_XDFmt
        · replace h := erM_no h; refine aRg ?_; intro _; refine litF ?_; intro _; refine dr_XDFmt ?_; refine aRt ?_; intro _; obtain rfl := inj1 h; exact ca_XDFmt
    · replace h := erM_no h; refine aRg ?_; intro _; refine dr_XDFmt ?_; refine aCd ?_; intro _; refine litT ?_; refine aSq ?_; refine aRg ?_; intro _; refine dr_XDFmt ?_; refine aRt ?_; intro _; obtain rfl := inj1 h; exact ca_XDFmt
end Go.Proofs.YtljekaadbabhkaaDoor.Am
/- Plain laws of texts: split at a byte, cut at a byte, words, and words for models. -/
namespace Go.Proofs.YtljekaadbabhkaaDoor.Am
open Go.RowKit

/-- the bytes of a text -/
abbrev bl (s : ByteArray) : List UInt8 := s.data.toList
def ofB (l : List UInt8) : ByteArray := ⟨l.toArray⟩
theorem bl_ofB (l : List UInt8) : bl (ofB l) = l := by simp [bl, ofB]
theorem ofB_bl (s : ByteArray) : ofB (bl s) = s := by obtain ⟨⟨l⟩⟩ := s; rfl
theorem bl_inj {s t : ByteArray} (h : bl s = bl t) : s = t := by rw [← ofB_bl s, ← ofB_bl t, h]
theorem bl_len (s : ByteArray) : (bl s).length = s.size := (Lib.size_eq s).symm
theorem toList_bl (s : ByteArray) : s.toList = bl s := ByteArray.toList_eq s
theorem bl_extract (s : ByteArray) (a b : Nat) : bl (s.extract a b) = ((bl s).drop a).take (b - a) := by rw [← toList_bl, Lib.extract_toList]
theorem bl_append (s t : ByteArray) : bl (s ++ t) = bl s ++ bl t := by
  show (s ++ t).data.toList = _
  simp
theorem bys_bl (s : ByteArray) : bys s = (bl s).map (fun c => (c.toNat : Int)) := rfl
theorem byt_bl (s : ByteArray) (n : Nat) (h : n < s.size) : byt s (n : Int) = (((bl s)[n]'(by rw [bl_len]; exact h)).toNat : Int) := by
  show ((s.data.getD ((n : Int)).toNat 0).toNat : Int) = _
  have h2 : n < s.data.size := h
  simp only [Int.toNat_natCast, Array.getD_eq_getD_getElem?, Array.getElem?_eq_getElem h2]
  simp

/-- split at a byte -/
def splitL (c : UInt8) : List UInt8 → List (List UInt8)
  | [] => [[]]
  | x :: r => if x = c then [] :: splitL c r else (x :: (splitL c r).headD []) :: (splitL c r).tail
theorem splitL_ne (c : UInt8) (l : List UInt8) : splitL c l ≠ [] := by
  cases l with
  | nil => simp [splitL]
  | cons x r => rw [splitL]; split <;> simp
theorem splitL_cons_ne {c x : UInt8} {r h : List UInt8} {t : List (List UInt8)} (hx : x ≠ c) (hr : splitL c r = h :: t) : splitL c (x :: r) = (x :: h) :: t := by
  rw [splitL, if_neg hx, hr]; rfl
theorem splitL_free {c : UInt8} : ∀ {l : List UInt8}, c ∉ l → splitL c l = [l]
  | [], _ => rfl
  | x :: r, h => splitL_cons_ne (fun e => h (by simp [e])) (splitL_free (fun hr => h (by simp [hr])))
theorem splitL_app {c : UInt8} : ∀ {a : List UInt8} {r : List UInt8}, c ∉ a → splitL c (a ++ c :: r) = a :: splitL c r
  | [], r, _ => by rw [List.nil_append, splitL, if_pos rfl]
  | x :: a, r, h => by
    rw [List.cons_append]
    exact splitL_cons_ne (fun e => h (by simp [e])) (splitL_app (fun hr => h (by simp [hr])))
/-- a first piece and what comes behind it -/
theorem splitL_cases (c : UInt8) (l : List UInt8) : (c ∉ l ∧ splitL c l = [l]) ∨ ∃ a r, c ∉ a ∧ l = a ++ c :: r ∧ splitL c l = a :: splitL c r := by
  by_cases h : c ∈ l
  · obtain ⟨a, r, e, ha⟩ := List.append_of_mem h |> fun ⟨a, r, e⟩ => (List.eq_append_cons_of_mem h)
    exact .inr ⟨a, r, ha, e, by rw [e]; exact splitL_app ha⟩
  · exact .inl ⟨h, splitL_free h⟩
theorem splitL_len_le (c : UInt8) (l : List UInt8) : (splitL c l).length ≤ l.length + 1 := by
  induction l with
  | nil => simp [splitL]
  | cons x r ih =>
    rw [splitL]
    split
    · simp; omega
    · cases hs : splitL c r with
      | nil => simp
      | cons h t => rw [hs] at ih; simp at ih ⊢; omega
theorem splitL_total (c : UInt8) (l : List UInt8) : ((splitL c l).map List.length).sum + (splitL c l).length = l.length + 1 := by
  induction l with
  | nil => simp [splitL]
  | cons x r ih =>
    rw [splitL]
    split
    · simp; omega
    · cases hs : splitL c r with
      | nil => exact absurd hs (splitL_ne c r)
      | cons h t => rw [hs] at ih; simp at ih ⊢; omega
theorem le_sum_of {n : Nat} : ∀ {l : List Nat}, n ∈ l → n ≤ l.sum
  | x :: l, h => by
    rcases List.mem_cons.1 h with rfl | h
    · simp
    · have := le_sum_of h
      simp
      omega
theorem splitL_mem_len {c : UInt8} {l w : List UInt8} (h : w ∈ splitL c l) : w.length ≤ l.length := by
  have h1 := splitL_total c l
  have h2 : w.length ≤ ((splitL c l).map List.length).sum := le_sum_of (List.mem_map.2 ⟨w, h, rfl⟩)
  have h3 : 1 ≤ (splitL c l).length := by cases hs : splitL c l with
    | nil => exact absurd hs (splitL_ne c l)
    | cons a b => simp
  omega

theorem index_one_none {c : UInt8} {l : List UInt8} (h : c ∉ l) : Lib.index l [c] = -1 := by
  induction l with
  | nil => rfl
  | cons x r ih =>
    have hx : c ≠ x := fun e => h (by simp [e])
    rw [Lib.index]
    simp [List.isPrefixOf, hx, ih (fun hr => h (by simp [hr]))]
theorem index_one_app {c : UInt8} {a r : List UInt8} (h : c ∉ a) : Lib.index (a ++ c :: r) [c] = a.length := by
  induction a with
  | nil => rw [List.nil_append, Lib.index]; simp [List.isPrefixOf]
  | cons x a ih =>
    have hx : c ≠ x := fun e => h (by simp [e])
    have ih' := ih (fun hr => h (by simp [hr]))
    rw [List.cons_append, Lib.index, ih']
    have : ¬ ((a.length : Int) = -1) := by omega
    simp [List.isPrefixOf, hx, this]
/-- strings.Split at one byte -/
theorem split_eq (c : UInt8) : ∀ (n : Nat) (s : ByteArray), s.size ≤ n → Lib.splitB ⟨#[c]⟩ 0 (Lib.countB s ⟨#[c]⟩) s = (splitL c (bl s)).map ofB := by
  intro n
  induction n with
  | zero =>
    intro s hs
    have h0 : bl s = [] := List.length_eq_zero_iff.1 (by rw [bl_len]; omega)
    have hi : Lib.indexB s ⟨#[c]⟩ = -1 := by show Lib.index (bl s) [c] = -1; rw [h0]; rfl
    rw [Lib.splitB_miss _ _ _ _ hi, h0]
    simp [splitL, ← h0, ofB_bl]
  | succ n ih =>
    intro s hs
    rcases splitL_cases c (bl s) with ⟨h1, h2⟩ | ⟨a, r, h1, h2, h3⟩
    · have hi : Lib.indexB s ⟨#[c]⟩ = -1 := index_one_none h1
      rw [Lib.splitB_miss _ _ _ _ hi, h2]
      simp [ofB_bl]
    · have hi : Lib.indexB s ⟨#[c]⟩ = (a.length : Nat) := by show Lib.index (bl s) [c] = _; rw [h2]; exact index_one_app h1
      have hlen : s.size = a.length + 1 + r.length := by rw [← bl_len, h2]; simp; omega
      have hone : (⟨#[c]⟩ : ByteArray).size = 1 := rfl
      have hx : bl (s.extract (a.length + 1) s.size) = r := by
        rw [bl_extract, h2, show a.length + 1 = (a ++ [c]).length from by simp, show a ++ c :: r = (a ++ [c]) ++ r from by simp, List.drop_left]
        apply List.take_of_length_le
        simp; omega
      rw [Lib.countB_hit s _ a.length (by rw [hone]; exact Nat.le_refl 1) hi, Nat.add_comm 1, Lib.splitB_hit _ _ _ _ _ hi, hone, ih _ (by rw [← bl_len, hx]; omega), hx, h3]
      simp only [List.map_cons, Nat.add_zero]
      congr 1
      apply bl_inj
      rw [bl_extract, bl_ofB, h2]
      simp
/-- cut at one byte -/
theorem cut_none {c : UInt8} {l : List UInt8} (h : c ∉ l) : Lib.cut l [c] = (l, [], false) := by
  rw [Lib.cut, if_neg (by rw [index_one_none h]; decide)]
theorem cut_app {c : UInt8} {a r : List UInt8} (h : c ∉ a) : Lib.cut (a ++ c :: r) [c] = (a, r, true) := by
  rw [Lib.cut, index_one_app h, if_pos (by omega)]
  simp

section
variable {α β γ δ : Type}
theorem sel_dec {p : Prop} [Decidable p] {x y : Option α} : sel (decide p) x y = if p then x else y := by
  unfold sel
  by_cases h : p <;> simp [h]
theorem sel_not {b : Bool} {x y : Option α} : sel (!b) x y = sel b y x := by cases b <;> rfl
theorem sel_tt {x y : Option α} : sel true x y = x := rfl
theorem sel_ff {x y : Option α} : sel false x y = y := rfl
theorem grd_t {p : Prop} [Decidable p] {x : Option α} (h : p) : grd p x = x := if_pos h
theorem ixn_at {l : List α} {n : Nat} {y : α} {k : α → Option β} (h : l[n]? = some y) : ixn l n k = k y := by rw [ixn, h]
theorem ix_at {l : List α} {n : Nat} {y : α} {k : α → Option β} (h : l[n]? = some y) : ix l (n : Int) k = k y := by
  rw [ix, Int.toNat_natCast, ixn_at h, grd_t (Int.natCast_nonneg n)]
theorem ob1_some {a : α} {k : α → Option β} : ob1 (some a) k = k a := rfl
theorem ob2_some {a : α} {b : β} {k : α → β → Option γ} : ob2 (some (a, b)) k = k a b := rfl
theorem ob3_some {a : α} {b : β} {c : γ} {k : α → β → γ → Option δ} : ob3 (some (a, b, c)) k = k a b c := rfl
theorem osum_inl {f : α → Option γ} {g : β → Option γ} {a : α} : osum f g (.inl a) = f a := rfl
theorem osum_inr {f : α → Option γ} {g : β → Option γ} {b : β} : osum f g (.inr b) = g b := rfl
theorem w64 {z : Int} (h1 : -9223372036854775808 ≤ z) (h2 : z ≤ 9223372036854775807) : IntKind.i64.wrap z = z := wrap_eq h1 h2
theorem w64s {n : Nat} (h : n < 9223372036854775807) : IntKind.i64.wrap ((n : Int) + 1) = ((n + 1 : Nat) : Int) := by rw [w64 (by omega) (by omega)]; rfl
theorem beq_int (a b : Int) : (a == b) = decide (a = b) := by by_cases h : a = b <;> simp [h]
theorem drop_at {l : List α} {n : Nat} (h : n < l.length) : ∃ y, l[n]? = some y ∧ l.drop n = y :: l.drop (n + 1) := ⟨l[n], List.getElem?_eq_getElem h, List.drop_eq_getElem_cons h⟩
end
end Go.Proofs.YtljekaadbabhkaaDoor.Am
/- Range loops as recursions. -/
namespace Go.Proofs.YtljekaadbabhkaaDoor.Am
section
variable {α β γ : Type}
end
end Go.Proofs.YtljekaadbabhkaaDoor.Am
/- Range loops of the models as recursions. -/
namespace Go.Proofs.YtljekaadbabhkaaDoor.Am
end Go.Proofs.YtljekaadbabhkaaDoor.Am
/- Plain laws: strings.FieldsFunc at blanks and tabs, by bytes. -/
namespace Go.Proofs.YtljekaadbabhkaaDoor.Am
open Go.RowKit

def sp (c : UInt8) : Bool := c == 32 || c == 9
/-- the parts between blanks; 'cur' is the part that is begun -/
def fld (cur : List UInt8) : List UInt8 → List (List UInt8)
  | [] => if cur = [] then [] else [cur]
  | c :: r => if sp c then (if cur = [] then fld [] r else cur :: fld [] r) else fld (cur ++ [c]) r
theorem fld_skip : ∀ (k : Nat) (cur l : List UInt8), k ≤ l.length → (∀ j, j < k → sp (l.getD j 0) = false) → fld cur l = fld (cur ++ l.take k) (l.drop k)
  | 0, cur, l, _, _ => by simp
  | k + 1, cur, [], h, _ => by simp at h
  | k + 1, cur, b :: t, h, hz => by
    have h0 : sp b = false := hz 0 (by omega)
    rw [fld, if_neg (by rw [h0]; simp), fld_skip k (cur ++ [b]) t (by simp at h; omega) (fun j hj => hz (j + 1) (by omega))]
    simp
theorem sp_iff {b : UInt8} (h : sp b = true) : b.toNat = 32 ∨ b.toNat = 9 := by
  simp only [sp, Bool.or_eq_true, beq_iff_eq] at h
  rcases h with rfl | rfl
  · exact .inl rfl
  · exact .inr rfl
theorem sp_of {b : UInt8} (h : b.toNat ≠ 32 ∧ b.toNat ≠ 9) : sp b = false := by
  cases hb : sp b with
  | false => rfl
  | true => rcases sp_iff hb with e | e <;> omega
theorem sp_to {b : UInt8} (h : b.toNat = 32 ∨ b.toNat = 9) : sp b = true := by
  rcases h with h | h
  · have : b = 32 := by apply UInt8.toNat_inj.1; simpa using h
    subst this; rfl
  · have : b = 9 := by apply UInt8.toNat_inj.1; simpa using h
    subst this; rfl
theorem spaceR_iff {x : Nat} : spaceR x = true ↔ x = 32 ∨ x = 9 := by simp [spaceR]
/-- what a rune is that the decoder hands out -/
theorem rune_sp (l : List UInt8) (hne : l ≠ []) : (spaceR (Lib.decodeL l).1 = true → (Lib.decodeL l).2 = 1 ∧ sp (l.getD 0 0) = true) ∧
    (spaceR (Lib.decodeL l).1 = false → ∀ j, j < (Lib.decodeL l).2 → sp (l.getD j 0) = false) := by
  have hl : 0 < l.length := List.length_pos_iff.2 hne
  have hsh := Lib.decodeN_shape l.length (l.getD 0 0).toNat (l.getD 1 0).toNat (l.getD 2 0).toNat (l.getD 3 0).toNat
  rw [← Lib.decodeL_N] at hsh
  have hb : ∀ b : UInt8, b.toNat < 256 := fun b => UInt8.toNat_lt b
  rcases hsh with ⟨h1, h2⟩ | ⟨h1, h2, h3, h4, h5⟩ | ⟨h1, h2, h3, h4, h5, _, h6⟩ | ⟨h1, h2, h3, h4, h5, h6, _, h7⟩ | h
  · rw [h2]
    refine ⟨fun h => ⟨rfl, sp_to (by simpa [spaceR] using h)⟩, fun h j hj => ?_⟩
    obtain rfl : j = 0 := by simpa using hj
    exact sp_of (by simpa [spaceR] using h)
  · rw [h5]
    refine ⟨fun h => by have := spaceR_iff.1 h; omega, fun _ j hj => sp_of ?_⟩
    have : j = 0 ∨ j = 1 := by simp at hj; omega
    rcases this with rfl | rfl <;> omega
  · rw [h6]
    refine ⟨fun h => by have := spaceR_iff.1 h; omega, fun _ j hj => sp_of ?_⟩
    have : j = 0 ∨ j = 1 ∨ j = 2 := by simp at hj; omega
    rcases this with rfl | rfl | rfl <;> omega
  · rw [h7]
    refine ⟨fun h => by have := spaceR_iff.1 h; omega, fun _ j hj => sp_of ?_⟩
    have : j = 0 ∨ j = 1 ∨ j = 2 ∨ j = 3 := by simp at hj; omega
    rcases this with rfl | rfl | rfl | rfl <;> omega
  · rw [h]
    refine ⟨fun h => by simp [spaceR] at h, fun _ j hj => ?_⟩
    obtain rfl : j = 0 := by simpa using hj
    refine sp_of ⟨fun e => ?_, fun e => ?_⟩
    · rw [Lib.decodeL_N, e] at h; simp [Lib.decodeN] at h
    · rw [Lib.decodeL_N, e] at h; simp [Lib.decodeN] at h
theorem spansP_eq (s : ByteArray) : ∀ (f pos : Nat) (st : Option Nat) (acc : List (Nat × Nat)), s.size ≤ pos + f → pos ≤ s.size → (∀ a, st = some a → a < pos) →
    (Lib.closeSpans s (Lib.spansFromP spaceR s f pos st acc)).map (fun p => Lib.pieceU (bl s) p.1 p.2) = acc.map (fun p => Lib.pieceU (bl s) p.1 p.2) ++ fld (Lib.openPiece (bl s) st pos) ((bl s).drop pos)
  | 0, pos, st, acc, h, hp, hst => by
    obtain rfl : pos = s.size := by omega
    rw [List.drop_eq_nil_of_le (by rw [bl_len]; exact Nat.le_refl _)]
    cases st with
    | none => simp [Lib.spansFromP, Lib.closeSpans, Lib.openPiece, fld]
    | some a =>
      have := Lib.pieceU_ne (bl s) a s.size (hst a rfl) (by rw [bl_len]; exact Nat.le_refl _)
      simp [Lib.spansFromP, Lib.closeSpans, Lib.openPiece, this, fld]
  | f + 1, pos, st, acc, h, hp, hst => by
    by_cases hlt : pos < s.size
    · have hne : (bl s).drop pos ≠ [] := by
        intro h0
        have := congrArg List.length h0
        rw [List.length_drop, bl_len] at this
        simp at this
        omega
      have hw := Lib.width_pos s pos
      have hwn : pos + (Utf8.decode s pos).2 ≤ s.size := by
        have := Lib.decodeN_le_n' (s.size - pos) (s.get! pos).toNat (s.get! (pos + 1)).toNat (s.get! (pos + 2)).toNat (s.get! (pos + 3)).toNat (by omega)
        rw [← Lib.decode_at] at this
        omega
      obtain ⟨r1, r2⟩ := rune_sp _ hne
      rw [show Lib.decodeL ((bl s).drop pos) = Utf8.decode s pos from Lib.decodeL_drop s pos] at r1 r2
      simp only [Lib.spansFromP, if_pos hlt]
      cases hsp : spaceR (Utf8.decode s pos).1 with
      | true =>
        obtain ⟨hw1, hs1⟩ := r1 hsp
        have hd : (bl s).drop pos = ((bl s).drop pos).getD 0 0 :: (bl s).drop (pos + 1) := by
          rw [List.drop_eq_getElem_cons (by rw [bl_len]; exact hlt)]
          rfl
        rw [hd, fld, if_pos hs1, hw1]
        rw [hw1] at hwn
        simp only [if_true]
        cases st with
        | none =>
          rw [spansP_eq s f (pos + 1) none acc (by omega) hwn (fun a h => by cases h)]
          simp [Lib.openPiece]
        | some a =>
          have hpn := Lib.pieceU_ne (bl s) a pos (hst a rfl) (by rw [bl_len]; omega)
          rw [spansP_eq s f (pos + 1) none (acc ++ [(a, pos)]) (by omega) hwn (fun a h => by cases h)]
          simp [Lib.openPiece, hpn]
      | false =>
        simp only [Bool.false_eq_true, if_false]
        have hk : (Utf8.decode s pos).2 ≤ ((bl s).drop pos).length := by rw [List.length_drop, bl_len]; omega
        rw [fld_skip _ (Lib.openPiece (bl s) st pos) ((bl s).drop pos) hk (r2 hsp), List.drop_drop]
        cases st with
        | none =>
          simp only
          rw [spansP_eq s f (pos + (Utf8.decode s pos).2) (some pos) acc (by omega) hwn (fun a h => by cases h; omega)]
          simp only [Lib.openPiece, List.nil_append]
          congr 2
          unfold Lib.pieceU
          rw [Nat.add_sub_cancel_left]
        | some a =>
          simp only
          rw [spansP_eq s f (pos + (Utf8.decode s pos).2) (some a) acc (by omega) hwn (fun b h => by cases h; have := hst a rfl; omega)]
          simp only [Lib.openPiece]
          rw [Lib.pieceU_grow _ _ _ _ (Nat.le_of_lt (hst a rfl))]
    · obtain rfl : pos = s.size := by omega
      rw [List.drop_eq_nil_of_le (by rw [bl_len]; exact Nat.le_refl _), Lib.spansFromP_end _ _ _ _ _ _ hlt]
      cases st with
      | none => simp [Lib.closeSpans, Lib.openPiece, fld]
      | some a =>
        have := Lib.pieceU_ne (bl s) a s.size (hst a rfl) (by rw [bl_len]; exact Nat.le_refl _)
        simp [Lib.closeSpans, Lib.openPiece, this, fld]
theorem fields_eq (s : ByteArray) : Lib.goFieldsP spaceR s = (fld [] (bl s)).map ofB := by
  have h := spansP_eq s s.size 0 none [] (by omega) (Nat.zero_le _) (fun a h => by cases h)
  simp only [List.map_nil, List.nil_append, Lib.openPiece, List.drop_zero] at h
  unfold Lib.goFieldsP Lib.spansOfP
  rw [← h, List.map_map]
  apply List.map_congr_left
  intro p _
  apply bl_inj
  rw [bl_extract]
  simp [Lib.pieceU, bl_ofB]
end Go.Proofs.YtljekaadbabhkaaDoor.Am
/- Plain laws of chapter 13: names, trimming. -/
namespace Go.Proofs.YtljekaadbabhkaaDoor.Am
open Go.RowKit

def cz (c : UInt8) : Int := (c.toNat : Int)
def lett (z : Int) : Bool := decide (97 ≤ z) && decide (z ≤ 122)
def rest (z : Int) : Bool := (decide (48 ≤ z) && decide (z ≤ 57)) || z == 45 || z == 95
def okN : Nat → List UInt8 → Bool
  | _, [] => true
  | n, c :: r => (lett (cz c) || (n != 0 && rest (cz c))) && okN (n + 1) r
def resv : List ByteArray := [⟨#[97, 110, 100]⟩, ⟨#[111, 114]⟩, ⟨#[110, 111, 116]⟩, ⟨#[105, 109, 112, 108, 121]⟩, ⟨#[102, 111, 114, 97, 108, 108]⟩, ⟨#[101, 120, 105, 115, 116, 115]⟩, ⟨#[119, 104, 101, 110]⟩, ⟨#[97, 115, 115, 105, 103, 110]⟩, ⟨#[105, 110, 99, 114, 101, 97, 115, 101]⟩, ⟨#[100, 101, 99, 114, 101, 97, 115, 101]⟩, ⟨#[111, 98, 106, 101, 99, 116]⟩]
/-- a name -/
def nameF (s : ByteArray) : Bool := okN 0 (bl s) && (decide (1 ≤ s.size) && (decide (s.size ≤ 32) && !resv.any (fun r => decide (r = s))))
theorem byt_at {s : ByteArray} {n : Nat} {c : UInt8} (h : (bl s)[n]? = some c) : byt s (n : Int) = cz c := by
  obtain ⟨h1, h2⟩ := List.getElem?_eq_some_iff.1 h
  rw [byt_bl s n (by rw [← bl_len]; exact h1), h2]
  rfl
theorem beq_bl (s t : ByteArray) : (s.toList == t.toList) = decide (s = t) := by
  rw [toList_bl, toList_bl]
  by_cases h : s = t
  · subst h; simp
  · have : bl s ≠ bl t := fun e => h (bl_inj e)
    rw [beq_eq_false_iff_ne.2 this, decide_eq_false h]
theorem nameL1_eq (a0 : ByteArray) (hs : a0.size < 9223372036854775807) : ∀ (k n : Nat), n ≤ a0.size → a0.size < k + n → M_formula_Name_L1 a0 k (n : Int) = some (if okN n ((bl a0).drop n) then .inl () else .inr false)
  | 0, n, h1, h2 => by omega
  | k + 1, n, h1, h2 => by
    rw [M_formula_Name_L1]
    by_cases hn : n < a0.size
    · obtain ⟨c, hc, hd⟩ := drop_at (l := bl a0) (n := n) (by rw [bl_len]; exact hn)
      have ih := nameL1_eq a0 hs k (n + 1) hn (by omega)
      rw [hd, okN, byt_at hc, w64s (by omega), ih, sel_dec, if_pos (by omega), grd_t (by omega), grd_t (by omega)]
      have hn0 : (((n : Nat) : Int) == 0) = !(n != 0) := by cases n <;> simp <;> omega
      rw [hn0]
      obtain ⟨z, hz⟩ : ∃ z, z = cz c := ⟨_, rfl⟩
      rw [← hz]
      have hl : ob1 (sel (decide (z ≥ 97)) (some (decide (z ≤ 122))) (some false)) = fun (f : Bool → Option (Unit ⊕ Bool)) => f (lett z) := by
        funext f
        rw [sel_dec, lett]
        by_cases h : 97 ≤ z <;> simp [h, ob1]
      rw [hl]
      simp only
      cases lett z with
      | true => simp [sel]
      | false =>
        cases n != 0 with
        | false => simp [sel]
        | true =>
          have h45 : (z != 45) = !(z == 45) := rfl
          have h95 : (z != 95) = !(z == 95) := rfl
          rw [rest, h45, h95]
          simp only [sel_dec]
          by_cases h1 : z < 48
          · rw [if_pos h1]
            have : ¬ 48 ≤ z := by omega
            cases hh : z == 45 <;> cases hk : z == 95 <;> simp [sel, this]
          · rw [if_neg h1]
            have : 48 ≤ z := by omega
            by_cases h2 : z > 57
            · rw [if_pos h2]
              have : ¬ z ≤ 57 := by omega
              cases hh : z == 45 <;> cases hk : z == 95 <;> simp [sel, this]
            · rw [if_neg h2]
              have h3 : z ≤ 57 := by omega
              simp [sel, this, h3]
    · obtain rfl : n = a0.size := by omega
      rw [sel_dec, if_neg (by omega), List.drop_eq_nil_of_le (by rw [bl_len]; exact Nat.le_refl _), okN]
      rfl
theorem index_eq (l : List ByteArray) (s : ByteArray) (hl : l.length < 9223372036854775807) : ∀ (k n : Nat), n ≤ l.length → l.length < k + n → ∃ z, M_s_Index_string_L1 l s k (n : Int) = some z ∧ decide (z ≥ 0) = (l.drop n).any (fun r => decide (r = s))
  | 0, n, h1, h2 => by omega
  | k + 1, n, h1, h2 => by
    rw [M_s_Index_string_L1, sel_dec, List.length_map]
    by_cases hn : n < l.length
    · obtain ⟨y, hy, hd⟩ := drop_at hn
      rw [if_pos (by omega), ix_at hy, hd, beq_bl, sel_dec]
      by_cases he : s = y
      · rw [if_pos he]
        exact ⟨n, rfl, by simp [he]⟩
      · rw [if_neg he, w64s (by omega)]
        obtain ⟨z, h3, h4⟩ := index_eq l s hl k (n + 1) hn (by omega)
        exact ⟨z, h3, by rw [h4, List.any_cons, decide_eq_false (Ne.symm he), Bool.false_or]⟩
    · obtain rfl : n = l.length := by omega
      exact ⟨-1, by rw [if_neg (by omega)], by simp⟩
theorem name_eq (s : ByteArray) (hs : s.size < 9223372036854775807) : M_formula_Name s = some (nameF s) := by
  have h0 := nameL1_eq s hs (s.size + 1) 0 (Nat.zero_le _) (by omega)
  rw [M_formula_Name, Int.toNat_natCast, show (0 : Int) = ((0 : Nat) : Int) from rfl, h0, List.drop_zero, nameF]
  cases okN 0 (bl s) with
  | false => rfl
  | true =>
    rw [if_pos rfl, ob1_some, osum_inl, M_formula_reserved, ob1_some, M_s_Contains_string, M_s_Index_string, beq_bl]
    have he : (!decide (s = (⟨#[]⟩ : ByteArray))) = decide (1 ≤ s.size) := by
      by_cases h : s = ⟨#[]⟩
      · subst h; rfl
      · have h1 : s.size ≠ 0 := fun e => h (bl_inj (List.eq_nil_of_length_eq_zero (by rw [bl_len]; exact e)))
        rw [decide_eq_false h, decide_eq_true (by omega)]
        rfl
    rw [he]
    obtain ⟨z, h3, h4⟩ := index_eq resv s (by decide) (resv.length + 1) 0 (Nat.zero_le _) (by omega)
    have h5 : M_s_Index_string_L1 resv s (((resv.map cS).length : Int).toNat + 1) 0 = some z := h3
    rw [sel_dec]
    by_cases hd1 : 1 ≤ s.size
    · rw [if_pos hd1, sel_dec]
      by_cases h32 : s.size ≤ 32
      · rw [if_pos (by omega), show ([(⟨#[97, 110, 100]⟩ : ByteArray), (⟨#[111, 114]⟩ : ByteArray), (⟨#[110, 111, 116]⟩ : ByteArray), (⟨#[105, 109, 112, 108, 121]⟩ : ByteArray), (⟨#[102, 111, 114, 97, 108, 108]⟩ : ByteArray), (⟨#[101, 120, 105, 115, 116, 115]⟩ : ByteArray), (⟨#[119, 104, 101, 110]⟩ : ByteArray), (⟨#[97, 115, 115, 105, 103, 110]⟩ : ByteArray), (⟨#[105, 110, 99, 114, 101, 97, 115, 101]⟩ : ByteArray), (⟨#[100, 101, 99, 114, 101, 97, 115, 101]⟩ : ByteArray), (⟨#[111, 98, 106, 101, 99, 116]⟩ : ByteArray)] : List ByteArray) = resv from rfl, h5, ob1_some, ob1_some, h4, List.drop_zero]
        simp [h32, hd1]
      · rw [if_neg (by omega)]
        simp [h32]
    · rw [if_neg hd1]
      simp [hd1]
/-- trimming -/
def blk (c : UInt8) : Bool := c == 32 || c == 9 || c == 13
def rdr : List UInt8 → List UInt8
  | [] => []
  | c :: r => if rdr r = [] ∧ blk c = true then [] else c :: rdr r
theorem rdr_snoc (l : List UInt8) (c : UInt8) : rdr (l ++ [c]) = if blk c then rdr l else l ++ [c] := by
  induction l with
  | nil => cases h : blk c <;> simp [rdr, h]
  | cons x r ih =>
    rw [List.cons_append, rdr, ih]
    cases h : blk c with
    | true => simp [rdr]
    | false => simp
theorem rdr_eq (l : List UInt8) : (l.reverse.dropWhile blk).reverse = rdr l := by
  obtain ⟨m, rfl⟩ : ∃ m, l = m.reverse := ⟨l.reverse, by simp⟩
  rw [List.reverse_reverse]
  induction m with
  | nil => rfl
  | cons c r ih =>
    rw [List.reverse_cons, rdr_snoc, List.dropWhile_cons]
    cases h : blk c with
    | true => simpa using ih
    | false => simp
theorem rdr_dropWhile (l : List UInt8) : rdr (l.dropWhile blk) = (rdr l).dropWhile blk := by
  induction l with
  | nil => rfl
  | cons c r ih =>
    rw [List.dropWhile_cons, rdr]
    cases h : blk c with
    | true =>
      rw [if_pos rfl, ih]
      by_cases hr : rdr r = []
      · simp [hr]
      · simp [hr, h]
    | false => simp [rdr, h]
def trimF (s : ByteArray) : ByteArray := ofB (rdr ((bl s).dropWhile blk))
theorem trim_eq (s : ByteArray) (hs : s.size ≤ 9223372036854775807) : M_strings_Trim s ⟨#[32, 9, 13]⟩ = some (trimF s) := by
  have hf : (fun b => ([32, 9, 13] : List UInt8).contains b) = blk := by
    funext b
    simp only [blk, List.contains_cons, List.contains_nil, Bool.or_false, Bool.or_assoc]
  have hp : ∀ l, Lib.trimS l [32, 9, 13] = rdr (l.dropWhile blk) := fun l => by
    rw [Lib.trimS, Lib.trimLeftS, Lib.trimRightS, hf, rdr_eq, rdr_dropWhile]
  rw [M_strings_Trim, grd_t hs, grd_t (by decide), grd_t (by decide)]
  show some (⟨(Lib.trimS (bl s) [32, 9, 13]).toArray⟩ : ByteArray) = _
  rw [hp]
  rfl
end Go.Proofs.YtljekaadbabhkaaDoor.Am
/- Plain laws of chapter 13: words, times, a step. -/
namespace Go.Proofs.YtljekaadbabhkaaDoor.Am
open Go.RowKit

theorem lowS_size (s : ByteArray) : (lowS s).size = s.size := by
  show ((s.data.toList.map lowB).toArray).size = s.size
  simp
theorem fld_len : ∀ (l cur : List UInt8), ∀ w ∈ fld cur l, w.length ≤ cur.length + l.length
  | [], cur, w, h => by
    rw [fld] at h
    split at h
    · cases h
    · simp at h; subst h; omega
  | c :: r, cur, w, h => by
    rw [fld] at h
    split at h
    · split at h
      · have := fld_len r [] w h; simp at this ⊢; omega
      · rcases List.mem_cons.1 h with rfl | h
        · simp
        · have := fld_len r [] w h; simp at this ⊢; omega
    · have := fld_len r (cur ++ [c]) w h; simp at this ⊢; omega
theorem fld_count : ∀ (l cur : List UInt8), (fld cur l).length ≤ l.length + 1
  | [], cur => by rw [fld]; split <;> simp
  | c :: r, cur => by
    rw [fld]
    split
    · split
      · have := fld_count r []; simp; omega
      · have := fld_count r []; simp; omega
    · have := fld_count r (cur ++ [c]); simp; omega
def bad (c : UInt8) : Bool := (decide (cz c < 32) && cz c != 9) || cz c == 127 || cz c == 40 || cz c == 41
def wordsI (s : ByteArray) : Option (List ByteArray) := if (bl s).any bad then none else some ((fld [] (bl s)).map ofB)
def paren (s : ByteArray) : Bool := decide (2 ≤ s.size) && ((bl s)[0]? == some 40 && (bl s)[s.size - 1]? == some 41)
def inner (s : ByteArray) : ByteArray := s.extract 1 (s.size - 1)
def wordsP (s : ByteArray) : Option (List ByteArray) := if paren s then wordsI (inner s) else none
theorem inner_size (s : ByteArray) : (inner s).size = s.size - 2 ∨ (inner s).size ≤ s.size := by
  right
  rw [inner, ByteArray.size_extract]
  omega
theorem words_len {s : ByteArray} {l : List ByteArray} (h : wordsP s = some l) : ∀ w ∈ l, w.size ≤ s.size := by
  unfold wordsP wordsI at h
  split at h
  · split at h
    · cases h
    · cases h
      intro w hw
      obtain ⟨x, hx, rfl⟩ := List.mem_map.1 hw
      have := fld_len _ _ x hx
      rw [← bl_len, bl_ofB]
      rw [bl_len] at this
      have h2 := inner_size s
      simp at this
      omega
  · cases h
theorem words_count {s : ByteArray} {l : List ByteArray} (h : wordsP s = some l) : l.length ≤ s.size + 1 := by
  unfold wordsP wordsI at h
  split at h
  · split at h
    · cases h
    · cases h
      have := fld_count (bl (inner s)) []
      have h2 := inner_size s
      rw [bl_len] at this
      rw [List.length_map]
      omega
  · cases h
theorem cz_eq (c : UInt8) (n : Nat) (hn : n < 256) : (cz c == (n : Int)) = (c == UInt8.ofNat n) := by
  by_cases e : c = UInt8.ofNat n
  · subst e
    have : cz (UInt8.ofNat n) = (n : Int) := by simp [cz]; omega
    simp [this]
  · have h1 : cz c ≠ (n : Int) := fun e2 => e (by
      apply UInt8.toNat_inj.1
      have h3 : c.toNat = n := by simp only [cz] at e2; exact_mod_cast e2
      rw [h3]; simp; omega)
    rw [beq_eq_false_iff_ne.2 h1, beq_eq_false_iff_ne.2 e]
theorem bys_at {s : ByteArray} {n : Nat} {c : UInt8} (h : (bl s)[n]? = some c) : (bys s)[n]? = some (cz c) := by
  rw [bys_bl, List.getElem?_map, h]
  rfl
theorem bys_len (s : ByteArray) : ((bys s).map c_u8).length = s.size := by rw [List.length_map, bys_bl, List.length_map, bl_len]
theorem bne_not {z w : Int} : (z != w) = !(z == w) := rfl
theorem wordsL_eq (a0 : ByteArray) (hs : a0.size ≤ 100000) (he : a0.extract 1 ((IntKind.i64.wrap ((a0.size : Int) - 1)).toNat) = inner a0) : ∀ (k n : Nat), n ≤ (inner a0).size → (inner a0).size < k + n →
    M_planfile_words_L1 a0 k (n : Int) = some (if ((bl (inner a0)).drop n).any bad then .inr ([], false) else .inl ())
  | 0, n, h1, h2 => by omega
  | k + 1, n, h1, h2 => by
    have hi := inner_size a0
    rw [M_planfile_words_L1, he, sel_dec, bys_len]
    by_cases hn : n < (inner a0).size
    · obtain ⟨c, hc, hd⟩ := drop_at (l := bl (inner a0)) (n := n) (by rw [bl_len]; exact hn)
      rw [if_pos (by omega), ix_at (bys_at hc), w64s (by omega), wordsL_eq a0 hs he k (n + 1) hn (by omega), hd, List.any_cons, bad, sel_dec]
      obtain ⟨z, hz⟩ : ∃ z, z = cz c := ⟨_, rfl⟩
      rw [← hz, bne_not]
      cases q1 : z == 40 <;> cases q2 : z == 41 <;> cases q3 : z == 127 <;> cases q4 : z == 9 <;> by_cases q5 : z < 32 <;> simp [sel, q5]
    · obtain rfl : n = (inner a0).size := by omega
      rw [if_neg (by omega), List.drop_eq_nil_of_le (by rw [bl_len]; exact Nat.le_refl _)]
      rfl
theorem byt_is {s : ByteArray} {n : Nat} (h : n < s.size) (m : Nat) (hm : m < 256) : (byt s (n : Int) == (m : Int)) = ((bl s)[n]? == some (UInt8.ofNat m)) := by
  have hl : n < (bl s).length := by rw [bl_len]; exact h
  rw [byt_at (List.getElem?_eq_getElem hl), cz_eq _ _ hm, List.getElem?_eq_getElem hl]
  rfl
theorem words_eq (s : ByteArray) (hs : s.size ≤ 100000) : M_planfile_words s = some (match wordsP s with | none => ([], false) | some l => (l, decide (0 < l.length))) := by
  rw [M_planfile_words]
  by_cases h2 : s.size < 2
  · have hp : paren s = false := by simp [paren]; omega
    rw [wordsP, hp]
    rw [sel_dec, if_pos (by omega)]
    rfl
  · have hw : IntKind.i64.wrap ((s.size : Int) - 1) = ((s.size - 1 : Nat) : Int) := by rw [w64 (by omega) (by omega)]; omega
    have e0 : (byt s 0 != 40) = !((bl s)[0]? == some 40) := by
      rw [bne_not]
      exact congrArg _ (byt_is (n := 0) (by omega) 40 (by decide))
    have e1 : (byt s ((s.size - 1 : Nat) : Int) != 41) = !((bl s)[s.size - 1]? == some 41) := by
      rw [bne_not]
      exact congrArg _ (byt_is (n := s.size - 1) (by omega) 41 (by decide))
    have he : s.extract 1 ((IntKind.i64.wrap ((s.size : Int) - 1)).toNat) = inner s := by rw [hw]; rfl
    have hL := wordsL_eq s hs he ((inner s).size + 1) 0 (Nat.zero_le _) (by omega)
    have hi := inner_size s
    rw [he, hw, e0, e1, sel_dec, if_neg (by omega), sel_not, sel_not, Int.toNat_natCast, bys_len, Int.toNat_natCast, show (0 : Int) = ((0 : Nat) : Int) from rfl, hL, List.drop_zero]
    have hp2 : decide (2 ≤ s.size) = true := by simp; omega
    rw [wordsP, paren, hp2, Bool.true_and]
    cases (bl s)[0]? == some (40 : UInt8) with
    | false =>
      rw [sel_ff, grd_t (by omega)]
      rfl
    | true =>
      rw [sel_tt, grd_t (by omega), grd_t (by omega), grd_t (by omega)]
      cases (bl s)[s.size - 1]? == some (41 : UInt8) with
      | false => rfl
      | true =>
        rw [sel_tt, ob1_some, osum_inl, grd_t (by omega), grd_t (by omega), grd_t (by omega), grd_t (by omega)]
        rw [if_pos (show (true && true) = true from rfl), wordsI]
        cases (bl (inner s)).any bad with
        | true => rfl
        | false =>
          rw [if_neg (show ¬ (false = true) by decide), if_neg (show ¬ (false = true) by decide), ob1_some, osum_inl, M_FieldsFunc, grd_t (by omega), ob1_some, fields_eq]
          simp
end Go.Proofs.YtljekaadbabhkaaDoor.Am
/- Plain laws of chapter 13: the time of a step, a step, the lines, Parse; PlanfileParses is true. -/
namespace Go.Proofs.YtljekaadbabhkaaDoor.Am
open Go.RowKit

def isDig (c : UInt8) : Bool := decide (48 ≤ c.toNat) && decide (c.toNat ≤ 57)
/-- the value of digits, after a number -/
def numL : Int → List UInt8 → Option Int
  | n, [] => some n
  | n, c :: r => if isDig c then numL (10 * n + ((c.toNat : Int) - 48)) r else none
def timeF (s : ByteArray) : Option Int := if 1 ≤ s.size ∧ s.size ≤ 9 then numL 0 (bl s) else none
theorem pow10_le {i : Nat} (h : i ≤ 9) : (10 : Int) ^ i ≤ 1000000000 := by
  have h1 : (10 : Nat) ^ i ≤ 10 ^ 9 := Nat.pow_le_pow_right (by omega) h
  have h2 : ((10 ^ i : Nat) : Int) ≤ ((10 ^ 9 : Nat) : Int) := by exact_mod_cast h1
  simpa using h2
theorem wrap_dig {n c : Int} (h0 : 0 ≤ n) (h1 : n < 10000000000000) (h2 : 48 ≤ c) (h3 : c ≤ 57) : IntKind.i64.wrap (IntKind.i64.wrap (10 * n) + IntKind.i64.wrap (IntKind.u8.wrap (c - 48))) = 10 * n + (c - 48) := by
  have e : IntKind.u8.wrap (c - 48) = c - 48 := by rw [IntKind.wrap_u8]; omega
  rw [e, w64 (z := 10 * n) (by omega) (by omega), w64 (z := c - 48) (by omega) (by omega), w64 (by omega) (by omega)]
theorem clockL_eq (s : ByteArray) (hs : s.size ≤ 9) : ∀ (k n : Nat) (v : Int), n ≤ s.size → s.size < k + n → 0 ≤ v → v < 10 ^ n →
    M_planfile_clock_L1 s k v (n : Int) = some (match numL v ((bl s).drop n) with | some m => .inl m | none => .inr (0, ⟨#[]⟩, false))
  | 0, n, v, h1, h2, _, _ => by omega
  | k + 1, n, v, h1, h2, h3, h4 => by
    rw [M_planfile_clock_L1, sel_dec, bys_len]
    by_cases hn : n < s.size
    · obtain ⟨c, hc, hd⟩ := drop_at (l := bl s) (n := n) (by rw [bl_len]; exact hn)
      have hp := pow10_le (i := n) (by omega)
      rw [if_pos (by omega), ix_at (bys_at hc), hd, numL, sel_dec, sel_dec]
      have hz : cz c = (c.toNat : Int) := rfl
      by_cases hdig : isDig c = true
      · simp [isDig] at hdig
        rw [if_neg (by omega), if_neg (by omega), if_pos (by simp [isDig]; omega), wrap_dig h3 (by omega) (by omega) (by omega), w64s (by omega)]
        exact clockL_eq s hs k (n + 1) _ hn (by omega) (by omega) (by rw [Int.pow_succ]; omega)
      · rw [if_neg hdig]
        simp [isDig] at hdig
        by_cases hlt : cz c < 48
        · rw [if_pos hlt]
        · rw [if_neg hlt, if_pos (by omega)]
    · obtain rfl : n = s.size := by omega
      rw [if_neg (by omega), List.drop_eq_nil_of_le (by rw [bl_len]; exact Nat.le_refl _)]
      rfl
/-- the first colon -/
def colon (s : ByteArray) : Option (ByteArray × ByteArray) := if (58 : UInt8) ∈ bl s then some (ofB ((bl s).takeWhile (· != 58)), ofB (((bl s).dropWhile (· != 58)).drop 1)) else none
theorem colon_app {s : ByteArray} {a r : List UInt8} (h : bl s = a ++ 58 :: r) (ha : (58 : UInt8) ∉ a) : colon s = some (ofB a, ofB r) := by
  have hp : ∀ x ∈ a, (x != 58) = true := fun x hx => by
    rw [bne_iff_ne]
    rintro rfl
    exact ha hx
  rw [colon, if_pos (by rw [h]; simp), h]
  simp only [Option.some.injEq, Prod.mk.injEq]
  constructor
  · congr 1
    clear h
    induction a with
    | nil => rfl
    | cons x a ih => rw [List.cons_append, List.takeWhile_cons, if_pos (hp x (by simp)), ih (fun e => ha (by simp [e])) (fun y hy => hp y (by simp [hy]))]
  · congr 1
    clear h
    induction a with
    | nil => rfl
    | cons x a ih => rw [List.cons_append, List.dropWhile_cons, if_pos (hp x (by simp)), ih (fun e => ha (by simp [e])) (fun y hy => hp y (by simp [hy]))]
theorem colon_cases (s : ByteArray) : ((58 : UInt8) ∉ bl s ∧ colon s = none) ∨ ∃ a r, bl s = a ++ 58 :: r ∧ (58 : UInt8) ∉ a ∧ colon s = some (ofB a, ofB r) := by
  by_cases h : (58 : UInt8) ∈ bl s
  · obtain ⟨a, r, e, ha⟩ := List.append_of_mem h |> fun ⟨a, r, e⟩ => (List.eq_append_cons_of_mem h)
    exact .inr ⟨a, r, e, ha, colon_app e ha⟩
  · exact .inl ⟨h, by rw [colon, if_neg h]⟩
def clockF (s : ByteArray) : Option (Int × ByteArray) :=
  match colon s with
  | none => none
  | some (a, r) => match timeF (trimF a) with
    | none => none
    | some n => some (n, trimF r)
theorem rdr_len (l : List UInt8) : (rdr l).length ≤ l.length := by
  induction l with
  | nil => simp [rdr]
  | cons c r ih =>
    rw [rdr]
    split
    · simp
    · simp; omega
theorem trim_len (s : ByteArray) : (trimF s).size ≤ s.size := by
  rw [← bl_len, trimF, bl_ofB, ← bl_len]
  have h1 := rdr_len ((bl s).dropWhile blk)
  have h2 := (List.dropWhile_sublist blk (l := bl s)).length_le
  omega
theorem colon_len {s a r : ByteArray} (h : colon s = some (a, r)) : a.size + r.size < s.size := by
  rcases colon_cases s with ⟨_, h2⟩ | ⟨x, y, h1, h2, h3⟩
  · rw [h2] at h; cases h
  · rw [h3] at h
    cases h
    have := congrArg List.length h1
    rw [bl_len] at this
    rw [← bl_len, bl_ofB, ← bl_len (ofB y), bl_ofB]
    simp at this
    omega
theorem clock_len {s r : ByteArray} {n : Int} (h : clockF s = some (n, r)) : r.size ≤ s.size := by
  unfold clockF at h
  split at h
  · cases h
  · rename_i a r' hc
    split at h
    · cases h
    · cases h
      have h1 := colon_len hc
      have h2 := trim_len r'
      omega
theorem clock_eq (s : ByteArray) (hs : s.size ≤ 100000) : M_planfile_clock s = some (match clockF s with | none => (0, ⟨#[]⟩, false) | some (n, r) => (n, r, true)) := by
  rw [M_planfile_clock, M_strings_Cut, grd_t (by omega), cutB]
  show ob3 (some ((⟨(Lib.cut (bl s) [58]).1.toArray⟩ : ByteArray), (⟨(Lib.cut (bl s) [58]).2.1.toArray⟩ : ByteArray), (Lib.cut (bl s) [58]).2.2)) _ = _
  rw [ob3_some]
  rcases colon_cases s with ⟨h1, h2⟩ | ⟨a, r, h1, h2, h3⟩
  · rw [cut_none h1, clockF, h2]
    simp only
    rw [trim_eq _ (by show (ofB (bl s)).size ≤ _; rw [← bl_len, bl_ofB, bl_len]; omega), ob1_some]
    rfl
  · have hl := congrArg List.length h1
    rw [bl_len] at hl
    simp at hl
    rw [h1, cut_app h2, clockF, h3]
    simp only
    have ha : (ofB a).size ≤ s.size := by rw [← bl_len, bl_ofB]; omega
    have hr : (ofB r).size ≤ s.size := by rw [← bl_len, bl_ofB]; omega
    have ht := trim_len (ofB a)
    rw [show (⟨a.toArray⟩ : ByteArray) = ofB a from rfl, show (⟨r.toArray⟩ : ByteArray) = ofB r from rfl, trim_eq _ (by omega), trim_eq _ (by omega), ob1_some, timeF]
    obtain ⟨t, he⟩ : ∃ t, trimF (ofB a) = t := ⟨_, rfl⟩
    rw [he] at ht ⊢
    simp only [sel_dec]
    by_cases h1 : t.size < 1
    · rw [if_pos (show ((t.size : Int) < 1) by omega), if_neg (show ¬ (1 ≤ t.size ∧ t.size ≤ 9) by omega)]
      rfl
    · by_cases h9 : t.size > 9
      · rw [if_neg (show ¬ ((t.size : Int) < 1) by omega), if_pos (show ((t.size : Int) > 9) by omega), if_neg (show ¬ (1 ≤ t.size ∧ t.size ≤ 9) by omega)]
        rfl
      · rw [if_neg (show ¬ ((t.size : Int) < 1) by omega), if_neg (show ¬ ((t.size : Int) > 9) by omega), if_pos (show (1 ≤ t.size ∧ t.size ≤ 9) by omega)]
        show ob1 (some (Sum.inl ())) _ = _
        rw [ob1_some, osum_inl, grd_t (by omega), bys_len, Int.toNat_natCast, show (0 : Int) = ((0 : Nat) : Int) from rfl, clockL_eq t (by omega) (t.size + 1) 0 _ (Nat.zero_le _) (by omega) (by simp) (by simp), List.drop_zero]
        cases numL ((0 : Nat) : Int) (bl t) with
        | none => rfl
        | some m => rfl
theorem ne_empty (s : ByteArray) : (!(s.toList == (⟨#[]⟩ : ByteArray).toList)) = decide (1 ≤ s.size) := by
  rw [beq_bl]
  by_cases h : s = ⟨#[]⟩
  · subst h; rfl
  · have h1 : s.size ≠ 0 := fun e => h (bl_inj (List.eq_nil_of_length_eq_zero (by rw [bl_len]; exact e)))
    rw [decide_eq_false h, decide_eq_true (by omega)]
    rfl
def step0 : GStep := { At := 0, Name := ⟨#[]⟩, Args := [] }
/-- the step of a line, and the error's number -/
def stepF (line : ByteArray) (timed : Bool) : GStep × Int :=
  match (if timed then clockF line else some (0, line)) with
  | none => (step0, 2)
  | some (t, l) => match wordsP l with
    | none => (step0, 2)
    | some [] => (step0, 2)
    | some (w :: ws) => if t > 1048576 then (step0, 1) else if ((w :: ws).map lowS).all nameF then ({ At := t, Name := lowS w, Args := ws.map lowS }, 0) else (step0, 8)
theorem low_set (L : List ByteArray) (n : Nat) (c : ByteArray) (h : L[n]? = some c) : ((L.take n).map lowS ++ L.drop n).set n (lowS c) = (L.take (n + 1)).map lowS ++ L.drop (n + 1) := by
  obtain ⟨hk, rfl⟩ := List.getElem?_eq_some_iff.1 h
  rw [List.set_append_right _ _ (by simp; omega)]
  rw [List.length_map, List.length_take, Nat.min_eq_left (by omega), Nat.sub_self, List.drop_eq_getElem_cons hk, List.set_cons_zero, List.take_succ_eq_append_getElem hk]
  simp only [List.map_append, List.map_cons, List.map_nil, List.append_assoc, List.cons_append, List.nil_append]
theorem low_get (L : List ByteArray) (n : Nat) (h : n < L.length) : ((L.take n).map lowS ++ L.drop n)[n]? = L[n]? := by
  rw [List.getElem?_append_right (by simp; omega)]
  simp only [List.length_map, List.length_take, Nat.min_eq_left (Nat.le_of_lt h), Nat.sub_self, List.getElem?_drop, Nat.add_zero]
theorem low_ln (L : List ByteArray) (n : Nat) : ((L.take n).map lowS ++ L.drop n).length = L.length := by
  simp
  omega
theorem stepL_eq (L : List ByteArray) (hL : L.length ≤ 200000) (hw : ∀ w ∈ L, w.size ≤ 200000) : ∀ (k n : Nat), n ≤ L.length → L.length < k + n →
    M_planfile_step_L1 L k (n : Int) ((L.take n).map lowS ++ L.drop n) = some (if ((L.drop n).map lowS).all nameF then .inl (L.map lowS) else .inr (step0, Er.no 8))
  | 0, n, h1, h2 => by omega
  | k + 1, n, h1, h2 => by
    rw [M_planfile_step_L1, sel_dec]
    by_cases hn : n < L.length
    · obtain ⟨c, hc, hd⟩ := drop_at hn
      have hcs := hw c (List.mem_of_getElem? hc)
      have hg := low_get L n hn
      rw [hc] at hg
      have hset := low_set L n c hc
      have hg2 : ((L.take (n + 1)).map lowS ++ L.drop (n + 1))[n]? = some (lowS c) := by
        rw [← hset, List.getElem?_set_self (by rw [low_ln]; exact hn)]
      rw [if_pos (by omega), Int.toNat_natCast, ixn_at hg, M_lower, grd_t (by omega), ob1_some, ixn_at hg, grd_t (by omega), low_ln, grd_t (by omega), hset, ixn_at hg2, name_eq _ (by rw [lowS_size]; omega), ob1_some, w64s (by omega), stepL_eq L hL hw k (n + 1) hn (by omega), hd, List.map_cons, List.all_cons]
      cases nameF (lowS c) <;> rfl
    · obtain rfl : n = L.length := by omega
      rw [if_neg (by omega), List.drop_eq_nil_of_le (Nat.le_refl _), List.take_of_length_le (Nat.le_refl _)]
      simp
def erOf (z : Int) : Er := if z = 0 then .nil else .no z
end Go.Proofs.YtljekaadbabhkaaDoor.Am
/- Plain laws of chapter 13: a step, the lines, Parse; PlanfileParses is true. -/
namespace Go.Proofs.YtljekaadbabhkaaDoor.Am
open Go.RowKit

theorem step_eq (line : ByteArray) (timed : Bool) (hs : line.size ≤ 70000) : M_planfile_step line timed = some ((stepF line timed).1, erOf (stepF line timed).2) := by
  have main : ∀ (l : ByteArray) (t : Int), l.size ≤ 70000 → ob2 (M_planfile_words l) (fun z12 z13 =>
      sel (!z13)
       (some (({ At := 0, Name := (⟨#[]⟩ : ByteArray), Args := [] : GStep }), (Er.no 2)))
       (sel (decide (t > 1048576))
         (some (({ At := 0, Name := (⟨#[]⟩ : ByteArray), Args := [] : GStep }), (Er.no 1)))
         (ob1 (M_planfile_step_L1 z12 ((((z12.length : Nat) : Int)).toNat + 1) 0 z12 : Option ((List ByteArray) ⊕ (GStep × Er)))
           (osum
           (fun v34 => ixn v34 0 (fun y58 =>
              ob1 (M_strings_Clone y58) (fun z59 =>
               grd (v34.length - 1 ≤ 140737488355328) (grd (1 + (v34.length - 1) ≤ v34.length) (ob1 (M_cloneS ((v34.drop 1).take (v34.length - 1))) (fun z60 =>
                grd (0 < ((v34.length : Nat) : Int)) (grd (1 ≤ v34.length) (some (({ At := t, Name := z59, Args := z60 : GStep }), Er.nil)))))))))
           (fun (r35, r36) => some (r35, r36)))))) = some (match wordsP l with
      | none => (step0, .no 2)
      | some [] => (step0, .no 2)
      | some (w :: ws) => if t > 1048576 then (step0, .no 1) else if ((w :: ws).map lowS).all nameF then ({ At := t, Name := lowS w, Args := ws.map lowS }, .nil) else (step0, .no 8)) := by
    intro l t hl
    rw [words_eq l (by omega)]
    cases hw : wordsP l with
    | none => rfl
    | some L =>
      cases L with
      | nil => rfl
      | cons w ws =>
        have hlen := words_len hw
        have hcnt := words_count hw
        simp only
        rw [ob2_some, decide_eq_true (show 0 < (w :: ws).length by simp), sel_not, sel_tt, sel_dec]
        by_cases ht : t > 1048576
        · rw [if_pos ht, if_pos ht]
          rfl
        · have hL := stepL_eq (w :: ws) (by omega) (fun x hx => by have := hlen x hx; omega) ((w :: ws).length + 1) 0 (Nat.zero_le _) (by omega)
          rw [List.take_zero, List.map_nil, List.nil_append, List.drop_zero] at hL
          rw [if_neg ht, if_neg ht, Int.toNat_natCast, show (0 : Int) = ((0 : Nat) : Int) from rfl, hL, ob1_some]
          cases ((w :: ws).map lowS).all nameF with
          | false => rfl
          | true =>
            have hw1 := hlen w (by simp)
            simp at hcnt
            rw [if_pos rfl, if_pos rfl, osum_inl, List.map_cons]
            show ob1 (M_strings_Clone (lowS w)) _ = _
            rw [M_strings_Clone, M_stringslite_Clone, grd_t (by rw [lowS_size]; omega), ob1_some, ob1_some, grd_t (by simp <;> omega), grd_t (by simp <;> omega)]
            have he : ((lowS w :: ws.map lowS).drop 1).take ((lowS w :: ws.map lowS).length - 1) = ws.map lowS := by simp [List.take_of_length_le]
            rw [he, M_cloneS, grd_t (by simp <;> omega), ob1_some, grd_t (by simp <;> omega), grd_t (by simp)]
  have fin : ∀ (l : ByteArray) (t : Int), some (match wordsP l with
      | none => (step0, Er.no 2)
      | some [] => (step0, .no 2)
      | some (w :: ws) => if t > 1048576 then (step0, .no 1) else if ((w :: ws).map lowS).all nameF then ({ At := t, Name := lowS w, Args := ws.map lowS }, .nil) else (step0, .no 8)) = (let r : GStep × Int := (match wordsP l with
      | none => (step0, 2)
      | some [] => (step0, 2)
      | some (w :: ws) => if t > 1048576 then (step0, 1) else if ((w :: ws).map lowS).all nameF then ({ At := t, Name := lowS w, Args := ws.map lowS }, 0) else (step0, 8)); some (r.1, erOf r.2)) := by
    intro l t
    cases wordsP l with
    | none => rfl
    | some L =>
      cases L with
      | nil => rfl
      | cons w ws =>
        simp only
        split
        · rfl
        · split <;> rfl
  rw [M_planfile_step, stepF]
  cases timed with
  | false =>
    rw [sel_ff, ob1_some, osum_inl]
    refine (main line 0 hs).trans ?_
    rw [fin]
    rfl
  | true =>
    rw [sel_tt, clock_eq line (by omega)]
    cases hc : clockF line with
    | none => rfl
    | some x =>
      obtain ⟨t, l⟩ := x
      have := clock_len hc
      simp only
      rw [ob3_some, sel_not, sel_tt, ob1_some, osum_inl]
      refine (main l t (by omega)).trans ?_
      rw [fin]
      rfl
/-- no step stands in a line: it is empty or a comment -/
def skipF (t : ByteArray) : Bool := decide (t.size = 0) || (bl t)[0]? == some 59
/-- the steps, the number of a line, the error's number -/
def parseL (timed : Bool) : Nat → List GStep → List ByteArray → List GStep × Int × Int
  | _, acc, [] => (acc, 0, 0)
  | n, acc, y :: r => if skipF (trimF y) then parseL timed (n + 1) acc r else if (stepF (trimF y) timed).2 = 0 then parseL timed (n + 1) (acc ++ [(stepF (trimF y) timed).1]) r else ([], ((n + 1 : Nat) : Int), (stepF (trimF y) timed).2)
def parseF (s : ByteArray) (timed : Bool) : List GStep × Int × Int := if s.size > 65536 then ([], 0, 5) else parseL timed 0 [] ((splitL 10 (bl s)).map ofB)
theorem skip_eq (t : ByteArray) (_ht : t.size ≤ 100000) : (sel (t.toList == (⟨#[]⟩ : ByteArray).toList)
          (some (.inr ()))
          (grd (0 < (t.size : Int)) (sel ((byt t 0) == 59)
            (some (.inr ()))
            (some (.inl ())))) : Option (Unit ⊕ Unit)) = some (if skipF t then .inr () else .inl ()) := by
  have he : (t.toList == (⟨#[]⟩ : ByteArray).toList) = decide (t.size = 0) := by
    have := ne_empty t
    by_cases h : t.size = 0
    · rw [decide_eq_true h]
      rw [decide_eq_false (show ¬ 1 ≤ t.size by omega)] at this
      simpa using this
    · rw [decide_eq_false h]
      rw [decide_eq_true (show 1 ≤ t.size by omega)] at this
      simpa using this
  rw [he, skipF, sel_dec]
  by_cases h : t.size = 0
  · rw [if_pos h, decide_eq_true h]
    rfl
  · have hb : (byt t 0 == 59) = ((bl t)[0]? == some 59) := byt_is (n := 0) (by omega) 59 (by decide)
    rw [if_neg h, decide_eq_false h, grd_t (by omega), hb]
    cases (bl t)[0]? == some (59 : UInt8) <;> rfl
theorem parseL_eq (timed : Bool) (Z : List ByteArray) (hZ : Z.length ≤ 100000) (hl : ∀ y ∈ Z, y.size ≤ 70000) : ∀ (k n : Nat) (acc : List GStep), n ≤ Z.length → Z.length < k + n → acc.length ≤ n →
    M_planfile_Parse_L1 timed Z k (n : Int) acc = some ((parseL timed n acc (Z.drop n)).1, (parseL timed n acc (Z.drop n)).2.1, erOf (parseL timed n acc (Z.drop n)).2.2)
  | 0, n, acc, h1, h2, _ => by omega
  | k + 1, n, acc, h1, h2, h3 => by
    rw [M_planfile_Parse_L1, sel_dec, List.length_map]
    by_cases hn : n < Z.length
    · obtain ⟨y, hy, hd⟩ := drop_at hn
      have hys := hl y (List.mem_of_getElem? hy)
      have ht := trim_len y
      rw [if_pos (by omega), ix_at hy, trim_eq y (by omega), ob1_some, skip_eq _ (by omega), ob1_some, hd, parseL, w64s (by omega)]
      by_cases hsk : skipF (trimF y) = true
      · rw [if_pos hsk, osum_inr, if_pos hsk]
        exact parseL_eq timed Z hZ hl k (n + 1) acc hn (by omega) (by omega)
      · rw [if_neg hsk, osum_inl, if_neg hsk, step_eq (trimF y) timed (by omega), ob2_some]
        by_cases hc : (stepF (trimF y) timed).2 = 0
        · rw [if_pos hc, erOf, if_pos hc]
          show grd _ _ = _
          rw [grd_t (by omega)]
          exact parseL_eq timed Z hZ hl k (n + 1) _ hn (by omega) (by simp; omega)
        · rw [if_neg hc, erOf, if_neg hc]
          rfl
    · obtain rfl : n = Z.length := by omega
      rw [if_neg (by omega), grd_t (by omega), List.drop_eq_nil_of_le (Nat.le_refl _)]
      rfl
theorem lines_small (s : ByteArray) : ((splitL 10 (bl s)).map ofB).length ≤ s.size + 1 ∧ ∀ y ∈ (splitL 10 (bl s)).map ofB, y.size ≤ s.size := by
  constructor
  · rw [List.length_map]
    have := splitL_len_le 10 (bl s)
    rw [bl_len] at this
    exact this
  · intro y hy
    obtain ⟨x, hx, rfl⟩ := List.mem_map.1 hy
    have := splitL_mem_len hx
    rw [bl_len] at this
    rw [← bl_len, bl_ofB]
    exact this
theorem parse_eq (s : ByteArray) (timed : Bool) (hs : s.size < 4294967281) : M_planfile_Parse s timed = some ((parseF s timed).1, (parseF s timed).2.1, erOf (parseF s timed).2.2) := by
  rw [M_planfile_Parse, sel_dec, parseF]
  by_cases h : s.size > 65536
  · rw [if_pos (by omega), if_pos h]
    rfl
  · obtain ⟨h1, h2⟩ := lines_small s
    rw [if_neg (by omega), if_neg h, M_strings_Split, grd_t hs, grd_t (by decide), split_eq 10 s.size s (Nat.le_refl _), ob1_some, List.length_map, Int.toNat_natCast]
    exact parseL_eq timed _ (by omega) (fun y hy => by have := h2 y hy; omega) _ 0 [] (Nat.zero_le _) (by omega) (Nat.zero_le _)
end Go.Proofs.YtljekaadbabhkaaDoor.Am
/- Plain laws of chapter 13: equal steps, the example of each statement; PlanfileParses is true. -/
namespace Go.Proofs.YtljekaadbabhkaaDoor.Am
open Go.RowKit

theorem texts_eq1 (a b : List ByteArray) (hl : a.length = b.length) (hs : a.length < 9223372036854775807) : ∀ (k n : Nat), n ≤ a.length → a.length < k + n → M_b_Texts_L1 a b k (n : Int) = some (decide (a.drop n = b.drop n))
  | 0, n, h1, h2 => by omega
  | k + 1, n, h1, h2 => by
    rw [M_b_Texts_L1, sel_dec, List.length_map]
    by_cases hn : n < a.length
    · obtain ⟨x, hx, hd⟩ := drop_at hn
      obtain ⟨y, hy, hd2⟩ := drop_at (l := b) (n := n) (by omega)
      rw [if_pos (by omega), ix_at hx, ix_at hy, beq_bl, sel_not, sel_dec, w64s (by omega), texts_eq1 a b hl hs k (n + 1) hn (by omega), hd, hd2]
      by_cases e : x = y
      · rw [if_pos e]
        simp [e]
      · rw [if_neg e]
        simp [e]
    · rw [if_neg (by omega), List.drop_eq_nil_of_le (by omega), List.drop_eq_nil_of_le (by omega)]
      rfl
theorem texts_eq (a b : List ByteArray) (hs : a.length < 9223372036854775807) : M_b_Texts a b = some (decide (a = b)) := by
  rw [M_b_Texts, List.length_map, List.length_map]
  by_cases hl : a.length = b.length
  · have hf : ((a.length : Int) != (b.length : Int)) = false := by rw [bne_eq_false_iff_eq]; omega
    rw [hf, sel_ff, Int.toNat_natCast, show (0 : Int) = ((0 : Nat) : Int) from rfl, texts_eq1 a b hl hs (a.length + 1) 0 (Nat.zero_le _) (by omega), List.drop_zero, List.drop_zero]
  · have hf : ((a.length : Int) != (b.length : Int)) = true := by rw [bne_iff_ne]; omega
    rw [hf, sel_tt, decide_eq_false (fun e => hl (by rw [e]))]
theorem same_eq1 (a b : List GStep) (hl : a.length = b.length) (hs : a.length < 9223372036854775807) (ha : ∀ x ∈ a, x.Args.length < 9223372036854775807) : ∀ (k n : Nat), n ≤ a.length → a.length < k + n → M_l13_Same_L1 a b k (n : Int) = some (decide (a.drop n = b.drop n))
  | 0, n, h1, h2 => by omega
  | k + 1, n, h1, h2 => by
    rw [M_l13_Same_L1, sel_dec, List.length_map]
    by_cases hn : n < a.length
    · obtain ⟨x, hx, hd⟩ := drop_at hn
      obtain ⟨y, hy, hd2⟩ := drop_at (l := b) (n := n) (by omega)
      have hxa := ha x (List.mem_of_getElem? hx)
      rw [if_pos (by omega)]
      simp only [ix_at hx, ix_at hy]
      rw [beq_bl, texts_eq _ _ hxa, ob1_some, w64s (by omega), same_eq1 a b hl hs ha k (n + 1) hn (by omega), hd, hd2, sel_not, sel_not, sel_dec, sel_dec]
      have key : x = y ↔ x.At = y.At ∧ x.Name = y.Name ∧ x.Args = y.Args := by
        obtain ⟨x1, x2, x3⟩ := x
        obtain ⟨y1, y2, y3⟩ := y
        simp
      by_cases e : x = y
      · obtain ⟨e1, e2, e3⟩ := key.1 e
        have hf : (x.At != y.At) = false := by rw [bne_eq_false_iff_eq]; exact e1
        rw [hf, sel_ff, if_pos e2, if_pos e3]
        simp [e]
      · have hr : decide (x :: a.drop (n + 1) = y :: b.drop (n + 1)) = false := decide_eq_false (fun h => e (List.cons.inj h).1)
        rw [hr]
        by_cases e1 : x.At = y.At
        · have hf : (x.At != y.At) = false := by rw [bne_eq_false_iff_eq]; exact e1
          rw [hf, sel_ff]
          by_cases e2 : x.Name = y.Name
          · rw [if_pos e2, if_neg (fun e3 => e (key.2 ⟨e1, e2, e3⟩))]
          · rw [if_neg e2]
        · have hf : (x.At != y.At) = true := by rw [bne_iff_ne]; exact e1
          rw [hf, sel_tt]
    · rw [if_neg (by omega), List.drop_eq_nil_of_le (by omega), List.drop_eq_nil_of_le (by omega)]
      rfl
theorem same_eq (a b : List GStep) (hs : a.length < 9223372036854775807) (ha : ∀ x ∈ a, x.Args.length < 9223372036854775807) : M_l13_Same a b = some (decide (a = b)) := by
  rw [M_l13_Same, List.length_map, List.length_map]
  by_cases hl : a.length = b.length
  · have hf : ((a.length : Int) != (b.length : Int)) = false := by rw [bne_eq_false_iff_eq]; omega
    rw [hf, sel_ff, Int.toNat_natCast, show (0 : Int) = ((0 : Nat) : Int) from rfl, same_eq1 a b hl hs ha (a.length + 1) 0 (Nat.zero_le _) (by omega), List.drop_zero, List.drop_zero]
  · have hf : ((a.length : Int) != (b.length : Int)) = true := by rw [bne_iff_ne]; omega
    rw [hf, sel_tt, decide_eq_false (fun e => hl (by rw [e]))]
theorem awake_parse : parseF ⟨#[40, 109, 111, 118, 101, 32, 97, 32, 98, 41]⟩ false = ([{ At := 0, Name := ⟨#[109, 111, 118, 101]⟩, Args := [⟨#[97]⟩, ⟨#[98]⟩] }], 0, 0) := by kernel_rfl
theorem awake_eq : M_l13_awake = some true := by
  rw [M_l13_awake, parse_eq _ _ (by decide), awake_parse]
  simp only
  rw [ob3_some, erOf, if_pos rfl]
  show sel _ _ _ = _
  rw [beq_bl, decide_eq_true rfl, sel_tt, show (0 : Int) = ((0 : Nat) : Int) from rfl, ix_at (y := ({ At := 0, Name := ⟨#[109, 111, 118, 101]⟩, Args := [⟨#[97]⟩, ⟨#[98]⟩] } : GStep)) rfl, texts_eq _ _ (by decide), ob1_some, decide_eq_true rfl]
end Go.Proofs.YtljekaadbabhkaaDoor.Am
/- Plain: planfile.Format and the document's Format; PlanfileFormats is true. -/
namespace Go.Proofs.YtljekaadbabhkaaDoor.Am
open Go.RowKit

theorem mem_sum {a : Nat} : ∀ {l : List Nat}, a ∈ l → a ≤ l.sum
  | x :: r, h => by
    rw [List.sum_cons]
    rcases List.mem_cons.1 h with rfl | h
    · omega
    · have := mem_sum h
      omega
def lenW (l : List ByteArray) : Nat := (l.map ByteArray.size).sum
def lenS (x : GStep) : Nat := x.Name.size + x.Args.length + lenW x.Args
/-- what 'long' counts -/
def lenL (l : List GStep) : Nat := l.length + (l.map lenS).sum
theorem lenW_cons (a : ByteArray) (l : List ByteArray) : lenW (a :: l) = a.size + lenW l := by simp [lenW]
theorem mem_lenW {a : ByteArray} {l : List ByteArray} (h : a ∈ l) : a.size ≤ lenW l := mem_sum (List.mem_map_of_mem h)
theorem longL1_eq (y : GStep) (hy : y.Args.length < 9223372036854775807) : ∀ (k n v : Nat), n ≤ y.Args.length → y.Args.length < k + n → v + lenW (y.Args.drop n) ≤ 4000000000000000000 → M_l13_long_L1 y k (v : Int) (n : Int) = some ((v + lenW (y.Args.drop n) : Nat) : Int)
  | 0, n, v, h1, h2, _ => by omega
  | k + 1, n, v, h1, h2, h3 => by
    rw [M_l13_long_L1, sel_dec, List.length_map]
    by_cases hn : n < y.Args.length
    · obtain ⟨x, hx, hd⟩ := drop_at hn
      rw [hd, lenW_cons] at h3 ⊢
      have e : IntKind.i64.wrap ((v : Int) + (x.size : Int)) = ((v + x.size : Nat) : Int) := by rw [w64 (by omega) (by omega)]; omega
      rw [if_pos (by omega), ix_at hx, w64s (by omega), e, longL1_eq y hy k (n + 1) (v + x.size) hn (by omega) (by omega)]
      congr 2
      omega
    · rw [if_neg (by omega), List.drop_eq_nil_of_le (by omega)]
      rfl
theorem longL2_eq (l : List GStep) (hl : l.length < 9223372036854775807) : ∀ (k n v : Nat), n ≤ l.length → l.length < k + n → v + ((l.drop n).map lenS).sum ≤ 4000000000000000000 → M_l13_long_L2 l k (v : Int) (n : Int) = some (decide (v + ((l.drop n).map lenS).sum > 3000))
  | 0, n, v, h1, h2, _ => by omega
  | k + 1, n, v, h1, h2, h3 => by
    rw [M_l13_long_L2, sel_dec, List.length_map]
    by_cases hn : n < l.length
    · obtain ⟨x, hx, hd⟩ := drop_at hn
      rw [hd, List.map_cons, List.sum_cons] at h3 ⊢
      have hs : lenS x = x.Name.size + x.Args.length + lenW x.Args := rfl
      have e1 : IntKind.i64.wrap ((x.Name.size : Int) + ((x.Args.map cS).length : Int)) = ((x.Name.size + x.Args.length : Nat) : Int) := by rw [List.length_map, w64 (by omega) (by omega)]; omega
      have e2 : IntKind.i64.wrap ((v : Int) + ((x.Name.size + x.Args.length : Nat) : Int)) = ((v + (x.Name.size + x.Args.length) : Nat) : Int) := by rw [w64 (by omega) (by omega)]; omega
      have q := longL1_eq x (by omega) (x.Args.length + 1) 0 (v + (x.Name.size + x.Args.length)) (Nat.zero_le _) (by omega) (by rw [List.drop_zero]; omega)
      rw [List.drop_zero] at q
      rw [if_pos (by omega), ix_at hx, e1, e2, List.length_map, Int.toNat_natCast, show M_l13_long_L1 x (x.Args.length + 1) ((v + (x.Name.size + x.Args.length) : Nat) : Int) 0 = _ from q, ob1_some, w64s (by omega), longL2_eq l hl k (n + 1) _ hn (by omega) (by omega)]
      congr 2
      rw [hs]
      apply propext
      omega
    · rw [if_neg (by omega), List.drop_eq_nil_of_le (by omega)]
      congr 2
      simp
      omega
theorem long_eq (l : List GStep) (h : lenL l ≤ 4000000000000000000) : M_l13_long l = some (decide (lenL l > 3000)) := by
  unfold lenL at h ⊢
  have := longL2_eq l (by omega) (l.length + 1) 0 l.length (Nat.zero_le _) (by omega) (by rw [List.drop_zero]; exact h)
  rw [List.drop_zero] at this
  rw [M_l13_long, List.length_map, Int.toNat_natCast]
  exact this
/-- small steps -/
structure Sm (x : GStep) : Prop where
  name : x.Name.size ≤ 3000
  args : x.Args.length ≤ 3000
  all : ∀ a ∈ x.Args, a.size ≤ 3000
theorem sm_of {l : List GStep} (h : lenL l ≤ 3000) : l.length ≤ 3000 ∧ ∀ x ∈ l, Sm x := by
  unfold lenL at h
  refine ⟨by omega, fun x hx => ?_⟩
  have h1 : lenS x ≤ (l.map lenS).sum := mem_sum (List.mem_map_of_mem hx)
  have hs : lenS x = x.Name.size + x.Args.length + lenW x.Args := rfl
  exact ⟨by omega, by omega, fun a ha => by have := mem_lenW ha; omega⟩
/-- the words are names -/
def goodF (x : GStep) : Bool := x.Args.all nameF && nameF x.Name
theorem named_loop (x : GStep) (hx : Sm x) : ∀ (k n : Nat), n ≤ x.Args.length → x.Args.length < k + n → M_planfile_named_L1 x k (n : Int) = some ((x.Args.drop n).all nameF && nameF x.Name)
  | 0, n, h1, h2 => by omega
  | k + 1, n, h1, h2 => by
    have h3 := hx.args
    have h4 := hx.name
    rw [M_planfile_named_L1, sel_dec, List.length_map]
    by_cases hn : n < x.Args.length
    · obtain ⟨a, ha, hd⟩ := drop_at hn
      have h5 := hx.all a (List.mem_of_getElem? ha)
      rw [if_pos (by omega), ix_at ha, name_eq a (by omega), ob1_some, sel_not, w64s (by omega), named_loop x hx k (n + 1) hn (by omega), hd, List.all_cons]
      cases nameF a <;> rfl
    · rw [if_neg (by omega), name_eq _ (by omega), ob1_some, List.drop_eq_nil_of_le (by omega)]
      simp
theorem named_eq (x : GStep) (hx : Sm x) : M_planfile_named x = some (goodF x) := by
  have := named_loop x hx (x.Args.length + 1) 0 (Nat.zero_le _) (by omega)
  rw [M_planfile_named, List.length_map, Int.toNat_natCast]
  rw [List.drop_zero] at this
  exact this
theorem fmt1_eq (l : List GStep) (hl : l.length ≤ 3000) (hs : ∀ x ∈ l, Sm x) : ∀ (k n : Nat), n ≤ l.length → l.length < k + n → M_planfile_Format_L1 l k (n : Int) = some (if (l.drop n).all goodF then .inl () else .inr (⟨#[]⟩, Er.no 8))
  | 0, n, h1, h2 => by omega
  | k + 1, n, h1, h2 => by
    rw [M_planfile_Format_L1, sel_dec, List.length_map]
    by_cases hn : n < l.length
    · obtain ⟨x, hx, hd⟩ := drop_at hn
      rw [if_pos (by omega), ix_at hx, named_eq x (hs x (List.mem_of_getElem? hx)), ob1_some, sel_not, w64s (by omega), fmt1_eq l hl hs k (n + 1) hn (by omega), hd, List.all_cons]
      cases goodF x <;> rfl
    · rw [if_neg (by omega), List.drop_eq_nil_of_le (by omega)]
      rfl
/-- the time is in range -/
def rngF (timed : Bool) (x : GStep) : Bool := decide (0 ≤ x.At) && (decide (x.At ≤ 1048576) && (timed || decide (x.At = 0)))
theorem fmt2_eq (l : List GStep) (hl : l.length ≤ 3000) (timed : Bool) : ∀ (k n : Nat), n ≤ l.length → l.length < k + n → M_planfile_Format_L2 l timed k (n : Int) = some (if (l.drop n).all (rngF timed) then .inl () else .inr (⟨#[]⟩, Er.no 1))
  | 0, n, h1, h2 => by omega
  | k + 1, n, h1, h2 => by
    rw [M_planfile_Format_L2, sel_dec, List.length_map]
    by_cases hn : n < l.length
    · obtain ⟨x, hx, hd⟩ := drop_at hn
      rw [if_pos (by omega), ix_at hx, w64s (by omega), fmt2_eq l hl timed k (n + 1) hn (by omega), hd, List.all_cons, rngF, sel_dec, sel_dec, sel_not, bne, sel_not, beq_int, sel_dec]
      by_cases c1 : x.At < 0
      · rw [if_pos c1, decide_eq_false (show ¬ 0 ≤ x.At by omega)]
        rfl
      · rw [if_neg c1, decide_eq_true (show 0 ≤ x.At by omega)]
        by_cases c2 : x.At > 1048576
        · rw [if_pos c2, decide_eq_false (show ¬ x.At ≤ 1048576 by omega)]
          rfl
        · rw [if_neg c2, decide_eq_true (show x.At ≤ 1048576 by omega)]
          cases timed with
          | true => rfl
          | false =>
            by_cases c3 : x.At = 0
            · simp [c3, sel_ff]
            · simp [c3, sel_ff]
    · rw [if_neg (by omega), List.drop_eq_nil_of_le (by omega)]
      rfl
def argsL (l : List ByteArray) : List UInt8 := (l.map (fun a => 32 :: bl a)).flatten
/-- the line of a step -/
def lineL (timed : Bool) (x : GStep) : List UInt8 := (if timed then Lib.itoa x.At ++ [58, 32] else []) ++ (40 :: (bl x.Name ++ argsL x.Args) ++ [41, 10])
def textL (timed : Bool) (l : List GStep) : List UInt8 := (l.map (lineL timed)).flatten
theorem argsL_cons (a : ByteArray) (l : List ByteArray) : argsL (a :: l) = 32 :: bl a ++ argsL l := by simp [argsL]
theorem argsL_len : ∀ l : List ByteArray, (argsL l).length = l.length + lenW l
  | [] => rfl
  | a :: r => by rw [argsL_cons, List.length_append, List.length_cons, argsL_len r, lenW_cons, List.length_cons, bl_len]; omega
theorem join_argsL (x : ByteArray) (l : List ByteArray) : joinB ([x] ++ l) ⟨#[32]⟩ = bl x ++ argsL l := by
  unfold joinB argsL
  rw [List.singleton_append, List.map_cons, Lib.join_cons]
  unfold Lib.joinTail
  rw [List.map_map]
  rfl
theorem textL_cons (timed : Bool) (x : GStep) (l : List GStep) : textL timed (x :: l) = lineL timed x ++ textL timed l := by simp [textL]
theorem line_len (timed : Bool) (x : GStep) (h0 : 0 ≤ x.At) (h1 : x.At ≤ 1048576) : (lineL timed x).length ≤ 26 + lenS x := by
  have h2 := Lib.itoa_length_le x.At (by omega) (by omega)
  have h3 : lenS x = x.Name.size + x.Args.length + lenW x.Args := rfl
  have h4 := argsL_len x.Args
  have h5 := bl_len x.Name
  unfold lineL
  cases timed <;> simp <;> omega
theorem ofB_app (a b : List UInt8) : ofB a ++ ofB b = ofB (a ++ b) := by
  apply bl_inj
  rw [bl_append, bl_ofB, bl_ofB, bl_ofB]
theorem ofB_size (a : List UInt8) : (ofB a).size = a.length := by rw [← bl_len, bl_ofB]
theorem fmt3_eq (l : List GStep) (hl : l.length ≤ 3000) (hs : ∀ x ∈ l, Sm x) (timed : Bool) (hr : ∀ x ∈ l, 0 ≤ x.At ∧ x.At ≤ 1048576) : ∀ (k n : Nat) (v : List UInt8), n ≤ l.length → l.length < k + n → v.length + (textL timed (l.drop n)).length ≤ 65536 → M_planfile_Format_L3 l timed k (n : Int) (ofB v) = some (ofB (v ++ textL timed (l.drop n)), .nil)
  | 0, n, v, h1, h2, _ => by omega
  | k + 1, n, v, h1, h2, h3 => by
    rw [M_planfile_Format_L3, sel_dec, List.length_map]
    by_cases hn : n < l.length
    · obtain ⟨x, hx, hd⟩ := drop_at hn
      have hm := List.mem_of_getElem? hx
      obtain ⟨r0, r1⟩ := hr x hm
      have hsx := hs x hm
      have q1 := hsx.args
      have q2 := hsx.name
      rw [hd, textL_cons] at h3 ⊢
      rw [List.length_append] at h3
      have hj := join_argsL x.Name x.Args
      have hil := Lib.itoa_length_le x.At (by omega) (by omega)
      have hll : (lineL timed x).length = (if timed then (Lib.itoa x.At).length + 2 else 0) + (1 + (bl x.Name).length + (argsL x.Args).length + 2) := by
        unfold lineL
        cases timed <;> simp <;> omega
      have hpre : (sel timed (ob1 (M_Itoa x.At) (fun z81 => ob3 (M_WriteString (ofB v) (z81 ++ (⟨#[58, 32]⟩ : ByteArray))) (fun _ _ c84 => grd (z81.size + (⟨#[58, 32]⟩ : ByteArray).size ≤ 9223372036854775807) (some c84)))) (some (ofB v)) : Option ByteArray) = some (ofB (v ++ (if timed then Lib.itoa x.At ++ [58, 32] else []))) := by
        cases timed with
        | false => rw [sel_ff]; simp
        | true =>
          rw [if_pos rfl] at hll
          have e : (⟨(Lib.itoa x.At).toArray⟩ : ByteArray) ++ (⟨#[58, 32]⟩ : ByteArray) = ofB (Lib.itoa x.At ++ [58, 32]) := by
            rw [← ofB_app]; rfl
          have e2 : (⟨(Lib.itoa x.At).toArray⟩ : ByteArray).size = (Lib.itoa x.At).length := ofB_size _
          rw [sel_tt, M_Itoa, grd_t ⟨by omega, by omega⟩, ob1_some, e, M_WriteString, ofB_size, ofB_size, grd_t (by simp; omega), ob3_some, e2, grd_t (by show _ + 2 ≤ _; omega), ofB_app]
          rfl
      rw [if_pos (by omega), ix_at hx, hpre, ob1_some, M_Join, hj]
      have e3 : (⟨#[40]⟩ : ByteArray) ++ (⟨(bl x.Name ++ argsL x.Args).toArray⟩ : ByteArray) ++ (⟨#[41, 10]⟩ : ByteArray) = ofB (40 :: (bl x.Name ++ argsL x.Args) ++ [41, 10]) := by
        rw [show (⟨#[40]⟩ : ByteArray) = ofB [40] from rfl, show (⟨(bl x.Name ++ argsL x.Args).toArray⟩ : ByteArray) = ofB (bl x.Name ++ argsL x.Args) from rfl, show (⟨#[41, 10]⟩ : ByteArray) = ofB [41, 10] from rfl, ofB_app, ofB_app]
        rfl
      have e4 : (⟨(bl x.Name ++ argsL x.Args).toArray⟩ : ByteArray).size = (bl x.Name ++ argsL x.Args).length := ofB_size _
      have e5 : ((⟨#[40]⟩ : ByteArray) ++ (⟨(bl x.Name ++ argsL x.Args).toArray⟩ : ByteArray)).size = 1 + (bl x.Name ++ argsL x.Args).length := by
        rw [show (⟨#[40]⟩ : ByteArray) = ofB [40] from rfl, show (⟨(bl x.Name ++ argsL x.Args).toArray⟩ : ByteArray) = ofB (bl x.Name ++ argsL x.Args) from rfl, ofB_app, ofB_size]
        simp
        omega
      have hal : (bl x.Name ++ argsL x.Args).length = (bl x.Name).length + (argsL x.Args).length := List.length_append
      have hpl : (v ++ (if timed then Lib.itoa x.At ++ [58, 32] else [])).length ≤ v.length + 23 := by cases timed <;> simp <;> omega
      rw [grd_t (by simp; omega), grd_t (by simp), grd_t (by simp; omega), grd_t (by omega), ob1_some, e3, M_WriteString, ofB_size, ofB_size, grd_t (by simp; simp at hpl hal; omega), ob3_some, ofB_app, grd_t (by omega), e4, grd_t (by show 1 + _ ≤ _; omega), e5, grd_t (by show _ + 2 ≤ _; omega), M_BuilderLen, ob1_some, ofB_size, sel_dec]
      have efin : v ++ (if timed then Lib.itoa x.At ++ [58, 32] else []) ++ (40 :: (bl x.Name ++ argsL x.Args) ++ [41, 10]) = v ++ lineL timed x := by
        unfold lineL
        rw [List.append_assoc]
      rw [efin, if_neg (by rw [List.length_append]; omega), w64s (by omega), fmt3_eq l hl hs timed hr k (n + 1) _ hn (by omega) (by rw [List.length_append]; omega), List.append_assoc]
    · rw [if_neg (by omega), M_BuilderString, ob1_some, List.drop_eq_nil_of_le (by omega)]
      simp [textL]
/-- the text, and the error's number -/
def fmtF (l : List GStep) (timed : Bool) : List UInt8 × Int := if l.all goodF then (if l.all (rngF timed) then (textL timed l, 0) else ([], 1)) else ([], 8)
theorem rng_of {timed : Bool} {x : GStep} (h : rngF timed x = true) : 0 ≤ x.At ∧ x.At ≤ 1048576 ∧ (timed = false → x.At = 0) := by
  unfold rngF at h
  simp only [Bool.and_eq_true, decide_eq_true_eq, Bool.or_eq_true] at h
  exact ⟨h.1, h.2.1, fun e => by rcases h.2.2 with q | q; rw [e] at q; cases q; exact q⟩
theorem good_of {x : GStep} (h : goodF x = true) : (∀ a ∈ x.Args, nameF a = true) ∧ nameF x.Name = true := by
  unfold goodF at h
  simp only [Bool.and_eq_true, List.all_eq_true] at h
  exact h
theorem name_size {s : ByteArray} (h : nameF s = true) : 1 ≤ s.size ∧ s.size ≤ 32 := by
  unfold nameF at h
  simp only [Bool.and_eq_true, decide_eq_true_eq] at h
  exact ⟨h.2.1, h.2.2.1⟩
theorem text_len (timed : Bool) : ∀ (l : List GStep), (∀ x ∈ l, goodF x = true ∧ rngF timed x = true) → (textL timed l).length ≤ 26 * l.length + (l.map lenS).sum ∧ l.length ≤ (l.map lenS).sum
  | [], _ => ⟨by simp [textL], by simp⟩
  | x :: r, h => by
    obtain ⟨h1, h2⟩ := text_len timed r (fun y hy => h y (by simp [hy]))
    obtain ⟨g1, g2⟩ := h x (by simp)
    obtain ⟨r0, r1, _⟩ := rng_of g2
    have h3 := line_len timed x r0 r1
    have h4 := (name_size (good_of g1).2).1
    have h5 : lenS x = x.Name.size + x.Args.length + lenW x.Args := rfl
    rw [textL_cons, List.length_append, List.map_cons, List.sum_cons, List.length_cons]
    exact ⟨by omega, by omega⟩
theorem text_small {l : List GStep} {timed : Bool} (h : lenL l ≤ 3000) (hg : l.all goodF = true) (hr : l.all (rngF timed) = true) : (textL timed l).length ≤ 42000 := by
  obtain ⟨h1, h2⟩ := text_len timed l (fun x hx => ⟨List.all_eq_true.1 hg x hx, List.all_eq_true.1 hr x hx⟩)
  unfold lenL at h
  omega
theorem format_eq (l : List GStep) (timed : Bool) (h : lenL l ≤ 3000) : M_planfile_Format l timed = some (ofB (fmtF l timed).1, erOf (fmtF l timed).2) := by
  obtain ⟨h1, h2⟩ := sm_of h
  have e1 := fmt1_eq l h1 h2 (l.length + 1) 0 (Nat.zero_le _) (by omega)
  have e2 := fmt2_eq l h1 timed (l.length + 1) 0 (Nat.zero_le _) (by omega)
  rw [List.drop_zero] at e1 e2
  rw [M_planfile_Format, List.length_map, Int.toNat_natCast, show M_planfile_Format_L1 l (l.length + 1) 0 = _ from e1, ob1_some]
  unfold fmtF
  cases hg : l.all goodF with
  | false => rfl
  | true =>
    rw [if_pos rfl, if_pos rfl, osum_inl, show M_planfile_Format_L2 l timed (l.length + 1) 0 = _ from e2, ob1_some]
    cases hr : l.all (rngF timed) with
    | false => rfl
    | true =>
      have e3 := fmt3_eq l h1 h2 timed (fun x hx => by obtain ⟨r0, r1, _⟩ := rng_of (List.all_eq_true.1 hr x hx); exact ⟨r0, r1⟩) (l.length + 1) 0 [] (Nat.zero_le _) (by omega) (by have := text_small h hg hr; rw [List.drop_zero]; simp; omega)
      rw [List.drop_zero, List.nil_append] at e3
      rw [if_pos rfl, if_pos rfl, osum_inl]
      exact e3
/- the reference -/
theorem num_one (z : Int) (h0 : 0 ≤ z) (h1 : z < 10) : strOfNums [IntKind.u8.wrap (IntKind.i64.wrap (48 + z))] = ofB [UInt8.ofNat (48 + z.toNat)] := by
  have e : IntKind.u8.wrap (IntKind.i64.wrap (48 + z)) = 48 + z := by rw [w64 (by omega) (by omega), IntKind.wrap_u8]; omega
  rw [e]
  show (⟨([48 + z].map fun n => UInt8.ofNat n.toNat).toArray⟩ : ByteArray) = _
  rw [List.map_cons, List.map_nil, show (48 + z).toNat = 48 + z.toNat by omega]
  rfl
theorem rnum_eq : ∀ (g : Nat) (u : Nat), u < 10 ^ g → u ≤ 1048576 → 0 < g → M_r13_Number g (u : Int) = some (ofB (Lib.decDigits u)) ∧ (Lib.decDigits u).length ≤ g
  | 0, u, _, _, h => by omega
  | g + 1, u, h1, h2, _ => by
    rw [M_r13_Number, sel_dec, Lib.decDigits]
    by_cases hu : u < 10
    · rw [if_pos (by omega), dif_pos hu, num_one _ (by omega) (by omega), Int.toNat_natCast]
      exact ⟨rfl, by simp⟩
    · have hg : 0 < g := by
        rcases Nat.eq_zero_or_pos g with e | e
        · subst e; omega
        · exact e
      have hp : u / 10 < 10 ^ g := by rw [Nat.pow_succ] at h1; omega
      obtain ⟨q1, q2⟩ := rnum_eq g (u / 10) hp (by omega) hg
      have e1 : ((u : Int).tdiv 10) = ((u / 10 : Nat) : Int) := by rw [Int.tdiv_eq_ediv_of_nonneg (by omega)]; omega
      have e2 : ((u : Int).tmod 10) = ((u % 10 : Nat) : Int) := by rw [Int.tmod_eq_emod_of_nonneg (by omega)]; omega
      have hgl : (Lib.decDigits (u / 10)).length ≤ 1048576 + 1 := by
        have : ∀ v : Nat, (Lib.decDigits v).length ≤ v + 1 := by
          intro v
          induction v using Nat.strongRecOn with
          | ind v ih =>
            rw [Lib.decDigits]
            split
            · simp
            · have := ih (v / 10) (by omega)
              simp
              omega
        have := this (u / 10)
        omega
      rw [if_neg (by omega), dif_neg hu, e1, w64 (by omega) (by omega), q1, ob1_some, e2, num_one _ (by omega) (by omega), grd_t (by decide), ofB_size, ofB_size, grd_t (by simp; omega), ofB_app, Int.toNat_natCast]
      exact ⟨rfl, by simp; omega⟩
end Go.Proofs.YtljekaadbabhkaaDoor.Am
/- Plain: Parse of lines of steps, up to blanks and capital letters; PlanfileReturns is true. -/
namespace Go.Proofs.YtljekaadbabhkaaDoor.Am
open Go.RowKit

theorem dropBl (B c : List UInt8) (hB : ∀ x ∈ B, blk x = true) : (B ++ c).dropWhile blk = c.dropWhile blk := by
  induction B with
  | nil => rfl
  | cons x r ih => rw [List.cons_append, List.dropWhile_cons, if_pos (hB x (by simp)), ih (fun y hy => hB y (by simp [hy]))]
theorem rdr_app (c B : List UInt8) (hB : ∀ x ∈ B, blk x = true) : rdr (c ++ B) = rdr c := by
  obtain ⟨m, rfl⟩ : ∃ m, B = m.reverse := ⟨B.reverse, by simp⟩
  induction m with
  | nil => simp
  | cons x m ih =>
    rw [List.reverse_cons, ← List.append_assoc, rdr_snoc, if_pos (hB x (by simp))]
    exact ih (fun y hy => hB y (by rw [List.reverse_cons]; exact List.mem_append_left _ hy))
theorem trim_core {B0 B4 c r r' : List UInt8} {a z : UInt8} (h0 : ∀ x ∈ B0, blk x = true) (h4 : ∀ x ∈ B4, blk x = true) (e1 : c = a :: r) (ha : blk a = false) (e2 : c = r' ++ [z]) (hz : blk z = false) : trimF (ofB (B0 ++ c ++ B4)) = ofB c := by
  have h1 : (c ++ B4).dropWhile blk = c ++ B4 := by rw [e1, List.cons_append, List.dropWhile_cons, if_neg (by rw [ha]; simp)]
  unfold trimF
  rw [bl_ofB, List.append_assoc, dropBl _ _ h0, h1, rdr_app _ _ h4, e2, rdr_snoc, if_neg (by rw [hz]; simp)]
theorem fld_word (w : List UInt8) (h : ∀ x ∈ w, sp x = false) : ∀ cur l, fld cur (w ++ l) = fld (cur ++ w) l := by
  induction w with
  | nil => intro cur l; simp
  | cons x r ih =>
    intro cur l
    rw [List.cons_append, fld, if_neg (by rw [h x (by simp)]; simp), ih (fun y hy => h y (by simp [hy]))]
    simp
theorem fld_sp (s : List UInt8) (h : ∀ x ∈ s, sp x = true) : ∀ l, fld [] (s ++ l) = fld [] l := by
  induction s with
  | nil => intro l; rfl
  | cons x r ih =>
    intro l
    rw [List.cons_append, fld, if_pos (h x (by simp)), if_pos rfl, ih (fun y hy => h y (by simp [hy]))]
/-- what may stand in a word -/
def okc (c : UInt8) : Bool := (decide (97 ≤ c.toNat) && decide (c.toNat ≤ 122)) || ((decide (65 ≤ c.toNat) && decide (c.toNat ≤ 90)) || ((decide (48 ≤ c.toNat) && decide (c.toNat ≤ 57)) || (decide (c.toNat = 45) || decide (c.toNat = 95))))
theorem okc_cases {c : UInt8} (h : okc c = true) : (97 ≤ c.toNat ∧ c.toNat ≤ 122) ∨ (65 ≤ c.toNat ∧ c.toNat ≤ 90) ∨ (48 ≤ c.toNat ∧ c.toNat ≤ 57) ∨ c.toNat = 45 ∨ c.toNat = 95 := by
  unfold okc at h
  simpa only [Bool.or_eq_true, Bool.and_eq_true, decide_eq_true_eq] using h
theorem ne_nat {c : UInt8} {n : Nat} (hn : n < 256) (h : c.toNat ≠ n) : c ≠ UInt8.ofNat n := fun e => h (by rw [e]; simp; omega)
theorem okc_sp {c : UInt8} (h : okc c = true) : sp c = false := sp_of (by have := okc_cases h; omega)
theorem okc_bad {c : UInt8} (h : okc c = true) : bad c = false := by
  have h1 := okc_cases h
  unfold bad cz
  rw [decide_eq_false (by omega), Bool.false_and, Bool.false_or, beq_int, beq_int, beq_int, decide_eq_false (by omega), decide_eq_false (by omega), decide_eq_false (by omega)]
  rfl
/-- separated words -/
def tailI (L : List (List UInt8 × List UInt8)) : List UInt8 := (L.map (fun p => p.1 ++ p.2)).flatten
theorem tailI_cons (p : List UInt8 × List UInt8) (L : List (List UInt8 × List UInt8)) : tailI (p :: L) = p.1 ++ p.2 ++ tailI L := by simp [tailI]
structure SepOk (p : List UInt8 × List UInt8) : Prop where
  ne : p.1 ≠ []
  sp : ∀ c ∈ p.1, sp c = true
  wne : p.2 ≠ []
  ok : ∀ c ∈ p.2, okc c = true
theorem fld_tail (B3 : List UInt8) (hB : ∀ c ∈ B3, sp c = true) : ∀ (L : List (List UInt8 × List UInt8)) (cur : List UInt8), cur ≠ [] → (∀ p ∈ L, SepOk p) → fld cur (tailI L ++ B3) = cur :: L.map (·.2)
  | [], cur, hc, _ => by
    show fld cur B3 = [cur]
    cases B3 with
    | nil => rw [fld, if_neg hc]
    | cons c r =>
      have e := fld_sp r (fun y hy => hB y (by simp [hy])) []
      rw [List.append_nil] at e
      rw [fld, if_pos (hB c (by simp)), if_neg hc, e]
      rfl
  | p :: L, cur, hc, h => by
    obtain ⟨s, w⟩ := p
    have hp := h (s, w) (by simp)
    cases s with
    | nil => exact absurd rfl hp.ne
    | cons c s =>
      have hsp := hp.sp
      have e1 : tailI ((c :: s, w) :: L) ++ B3 = c :: (s ++ (w ++ (tailI L ++ B3))) := by rw [tailI_cons]; simp
      rw [e1, fld, if_pos (hsp c (by simp)), if_neg hc, fld_sp s (fun y hy => hsp y (by simp [hy])), fld_word w (fun y hy => okc_sp (hp.ok y hy)), List.nil_append, fld_tail B3 hB L w hp.wne (fun q hq => h q (by simp [hq]))]
      rfl
/-- a line of a step, up to blanks and capital letters -/
structure LineOk (timed : Bool) (x : GStep) (y : List UInt8) (B0 B1 B2 B3 B4 w0 : List UInt8) (L : List (List UInt8 × List UInt8)) : Prop where
  eq : y = B0 ++ ((if timed then Lib.itoa x.At ++ 58 :: B1 else []) ++ 40 :: (B2 ++ w0 ++ tailI L ++ B3) ++ [41]) ++ B4
  b0 : ∀ c ∈ B0, sp c = true
  b1 : ∀ c ∈ B1, sp c = true
  b2 : ∀ c ∈ B2, sp c = true
  b3 : ∀ c ∈ B3, sp c = true
  b4 : ∀ c ∈ B4, blk c = true
  wne : w0 ≠ []
  wok : ∀ c ∈ w0, okc c = true
  sep : ∀ p ∈ L, SepOk p
  name : w0.map lowB = bl x.Name
  args : L.map (fun p => p.2.map lowB) = x.Args.map bl
theorem sp_blk {c : UInt8} (h : sp c = true) : blk c = true := by
  unfold sp at h
  unfold blk
  rw [h]
  rfl
theorem sp_bad {c : UInt8} (h : sp c = true) : bad c = false := by
  have h1 := sp_iff h
  unfold bad cz
  rw [beq_int, beq_int, beq_int, bne, beq_int, decide_eq_false (show ¬ (c.toNat : Int) = 127 by omega), decide_eq_false (show ¬ (c.toNat : Int) = 40 by omega), decide_eq_false (show ¬ (c.toNat : Int) = 41 by omega)]
  rcases h1 with h1 | h1
  · rw [decide_eq_false (show ¬ (c.toNat : Int) < 32 by omega)]; rfl
  · rw [decide_eq_true (show (c.toNat : Int) = 9 by omega)]; simp
theorem mem_tail {L : List (List UInt8 × List UInt8)} {c : UInt8} (h : c ∈ tailI L) : ∃ p ∈ L, c ∈ p.1 ∨ c ∈ p.2 := by
  unfold tailI at h
  rw [List.mem_flatten] at h
  obtain ⟨l, h1, h2⟩ := h
  obtain ⟨p, h3, rfl⟩ := List.mem_map.1 h1
  exact ⟨p, h3, List.mem_append.1 h2⟩
theorem dig_of : ∀ (n u : Nat), u ≤ n → ∀ c ∈ Lib.decDigits u, 48 ≤ c.toNat ∧ c.toNat ≤ 57
  | n, u, hn, c, hc => by
    rw [Lib.decDigits] at hc
    split at hc
    · rename_i h
      simp at hc
      subst hc
      simp
      omega
    · rename_i h
      cases n with
      | zero => omega
      | succ n =>
        rcases List.mem_append.1 hc with hc | hc
        · exact dig_of n (u / 10) (by omega) c hc
        · simp at hc
          subst hc
          simp
          omega
theorem numL_app (a b : List UInt8) : ∀ n, numL n (a ++ b) = (numL n a).bind (fun m => numL m b) := by
  induction a with
  | nil => intro n; rfl
  | cons x r ih =>
    intro n
    rw [List.cons_append, numL, numL, ih]
    split <;> rfl
theorem isDig_of {c : UInt8} (h : 48 ≤ c.toNat ∧ c.toNat ≤ 57) : isDig c = true := by unfold isDig; rw [decide_eq_true h.1, decide_eq_true h.2]; rfl
theorem num_dig : ∀ (n u : Nat), u ≤ n → numL 0 (Lib.decDigits u) = some (u : Int)
  | n, u, hn => by
    rw [Lib.decDigits]
    split
    · rename_i h
      have h1 : (UInt8.ofNat (48 + u)).toNat = 48 + u := by simp; omega
      rw [numL, if_pos (isDig_of (by omega)), numL, h1]
      congr 1
      omega
    · rename_i h
      cases n with
      | zero => omega
      | succ n =>
        have h1 : (UInt8.ofNat (48 + u % 10)).toNat = 48 + u % 10 := by simp; omega
        rw [numL_app, num_dig n (u / 10) (by omega), Option.bind_some, numL, if_pos (isDig_of (by omega)), numL, h1]
        congr 1
        omega
theorem itoa_at {z : Int} (h0 : 0 ≤ z) (h1 : z ≤ 1048576) : (∀ c ∈ Lib.itoa z, 48 ≤ c.toNat ∧ c.toNat ≤ 57) ∧ numL 0 (Lib.itoa z) = some z ∧ 1 ≤ (Lib.itoa z).length ∧ (Lib.itoa z).length ≤ 8 := by
  obtain ⟨u, rfl⟩ : ∃ u : Nat, z = (u : Int) := ⟨z.toNat, by omega⟩
  have e : Lib.itoa (u : Int) = Lib.decDigits u := by unfold Lib.itoa; rw [if_neg (by omega), Int.toNat_natCast]
  rw [e]
  refine ⟨dig_of u u (Nat.le_refl _), num_dig u u (Nat.le_refl _), ?_, (rnum_eq 8 u (by omega) (by omega) (by omega)).2⟩
  rw [Lib.decDigits]
  split <;> simp
theorem dig_blk {c : UInt8} (h : 48 ≤ c.toNat ∧ c.toNat ≤ 57) : blk c = false := by
  unfold blk
  have h1 : c ≠ 32 := ne_nat (n := 32) (by omega) (by omega)
  have h2 : c ≠ 9 := ne_nat (n := 9) (by omega) (by omega)
  have h3 : c ≠ 13 := ne_nat (n := 13) (by omega) (by omega)
  simp [h1, h2, h3]
theorem trim_free {l : List UInt8} (h : ∀ c ∈ l, blk c = false) : trimF (ofB l) = ofB l := by
  rcases List.eq_nil_or_concat l with rfl | ⟨r', z, e⟩
  · rfl
  · rw [List.concat_eq_append] at e
    cases l with
    | nil => simp at e
    | cons a r =>
      have := trim_core (B0 := []) (B4 := []) (by simp) (by simp) rfl (h a (by simp)) e (h z (by rw [e]; simp))
      simpa using this
theorem name_chars {a : ByteArray} (h : nameF a = true) : ∀ c ∈ bl a, (97 ≤ c.toNat ∧ c.toNat ≤ 122) ∨ (48 ≤ c.toNat ∧ c.toNat ≤ 57) ∨ c.toNat = 45 ∨ c.toNat = 95 := by
  unfold nameF at h
  simp only [Bool.and_eq_true] at h
  have key : ∀ (l : List UInt8) (n : Nat), okN n l = true → ∀ c ∈ l, (97 ≤ c.toNat ∧ c.toNat ≤ 122) ∨ (48 ≤ c.toNat ∧ c.toNat ≤ 57) ∨ c.toNat = 45 ∨ c.toNat = 95 := by
    intro l
    induction l with
    | nil => intro n _ c hc; cases hc
    | cons x r ih =>
      intro n hn c hc
      rw [okN, Bool.and_eq_true] at hn
      rcases List.mem_cons.1 hc with rfl | hc
      · have h1 := hn.1
        unfold lett rest cz at h1
        simp only [Bool.or_eq_true, Bool.and_eq_true, decide_eq_true_eq, beq_iff_eq] at h1
        omega
      · exact ih (n + 1) hn.2 c hc
  exact key _ 0 h.1
theorem lowB_id {c : UInt8} (h : ¬ (65 ≤ c.toNat ∧ c.toNat ≤ 90)) : lowB c = c := by unfold lowB; rw [if_neg h]
theorem lowS_ofB (w : List UInt8) : lowS (ofB w) = ofB (w.map lowB) := by
  unfold lowS
  rw [show (ofB w).data.toList = w from bl_ofB w]
  rfl
theorem core_words {B2 B3 w0 : List UInt8} {L : List (List UInt8 × List UInt8)} (b2 : ∀ c ∈ B2, sp c = true) (b3 : ∀ c ∈ B3, sp c = true) (wne : w0 ≠ []) (wok : ∀ c ∈ w0, okc c = true) (sep : ∀ p ∈ L, SepOk p) :
    wordsP (ofB (40 :: (B2 ++ w0 ++ tailI L ++ B3) ++ [41])) = some (ofB w0 :: L.map (fun p => ofB p.2)) := by
  obtain ⟨I, hI⟩ : ∃ I, B2 ++ w0 ++ tailI L ++ B3 = I := ⟨_, rfl⟩
  rw [hI]
  have hin : inner (ofB (40 :: I ++ [41])) = ofB I := by
    apply bl_inj
    unfold inner
    rw [bl_extract, bl_ofB, bl_ofB, ofB_size]
    simp
  have hpar : paren (ofB (40 :: I ++ [41])) = true := by
    unfold paren
    rw [bl_ofB, ofB_size]
    have e : (40 :: I ++ [41]).length - 1 = (40 :: I).length := by simp
    rw [e, List.getElem?_append_right (Nat.le_refl _)]
    simp
  have hbad : (bl (ofB I)).any bad = false := by
    rw [bl_ofB, ← hI]
    rw [List.any_eq_false]
    intro c hc
    have hc' : c ∈ B2 ∨ c ∈ w0 ∨ c ∈ tailI L ∨ c ∈ B3 := by simpa [or_assoc] using hc
    rcases hc' with h | h | h | h
    · rw [sp_bad (b2 c h)]; simp
    · rw [okc_bad (wok c h)]; simp
    · obtain ⟨p, hp, h | h⟩ := mem_tail h
      · rw [sp_bad ((sep p hp).sp c h)]; simp
      · rw [okc_bad ((sep p hp).ok c h)]; simp
    · rw [sp_bad (b3 c h)]; simp
  unfold wordsP
  rw [if_pos hpar, hin]
  unfold wordsI
  rw [hbad, if_neg (by simp), bl_ofB, ← hI, List.append_assoc, List.append_assoc, fld_sp B2 b2, fld_word w0 (fun c hc => okc_sp (wok c hc)), List.nil_append, fld_tail B3 b3 L w0 wne sep]
  simp
theorem line_step {timed : Bool} {x : GStep} {y B0 B1 B2 B3 B4 w0 : List UInt8} {L : List (List UInt8 × List UInt8)} (h : LineOk timed x y B0 B1 B2 B3 B4 w0 L) (hg : goodF x = true) (hr : rngF timed x = true) :
    skipF (trimF (ofB y)) = false ∧ stepF (trimF (ofB y)) timed = (x, 0) := by
  obtain ⟨r0, r1, r2⟩ := rng_of hr
  obtain ⟨g1, g2⟩ := good_of hg
  obtain ⟨d1, d2, d3, d4⟩ := itoa_at r0 r1
  have hw := core_words h.b2 h.b3 h.wne h.wok h.sep
  have b40 : blk 40 = false := by decide
  have b41 : blk 41 = false := by decide
  have hlow : (ofB w0 :: L.map (fun p => ofB p.2)).map lowS = x.Name :: x.Args := by
    rw [List.map_cons, lowS_ofB, h.name, ofB_bl, List.map_map]
    congr 1
    have e : (lowS ∘ fun p : List UInt8 × List UInt8 => ofB p.2) = ofB ∘ (fun p => p.2.map lowB) := by funext p; exact lowS_ofB p.2
    rw [e, ← List.map_map, h.args, List.map_map]
    have e2 : (ofB ∘ bl) = id := by funext s; exact ofB_bl s
    rw [e2, List.map_id]
  have hend : ∀ t : Int, t ≤ 1048576 → (match (some (ofB w0 :: L.map (fun p => ofB p.2)) : Option (List ByteArray)) with
      | none => (step0, (2 : Int))
      | some [] => (step0, 2)
      | some (w :: ws) => if t > 1048576 then (step0, 1) else if ((w :: ws).map lowS).all nameF then ({ At := t, Name := lowS w, Args := ws.map lowS }, 0) else (step0, 8)) = (({ At := t, Name := x.Name, Args := x.Args } : GStep), 0) := by
    intro t ht
    simp only
    rw [if_neg (by omega), hlow]
    have ha : (x.Name :: x.Args).all nameF = true := by
      rw [List.all_cons, g2, Bool.true_and, List.all_eq_true]
      exact g1
    have h1 := (List.cons.inj hlow).1
    have h2 := (List.cons.inj hlow).2
    rw [if_pos ha, h1, h2]
  cases timed with
  | false =>
    have e1 : y = B0 ++ (40 :: (B2 ++ w0 ++ tailI L ++ B3) ++ [41]) ++ B4 := by rw [h.eq]; simp
    have ht : trimF (ofB y) = ofB (40 :: (B2 ++ w0 ++ tailI L ++ B3) ++ [41]) := by
      rw [e1]
      exact trim_core (fun c hc => sp_blk (h.b0 c hc)) h.b4 rfl b40 rfl b41
    rw [ht]
    constructor
    · unfold skipF
      rw [ofB_size, bl_ofB]
      simp
    · unfold stepF
      rw [if_neg (by simp)]
      simp only
      rw [hw]
      have := hend 0 (by omega)
      rw [← r2 rfl] at this
      rw [r2 rfl] at this
      have hx : ({ At := 0, Name := x.Name, Args := x.Args } : GStep) = x := by
        have := r2 rfl
        obtain ⟨x1, x2, x3⟩ := x
        simp only at this
        subst this
        rfl
      rw [← hx]
      exact hend 0 (by omega)
  | true =>
    obtain ⟨R, hR⟩ : ∃ R, 40 :: (B2 ++ w0 ++ tailI L ++ B3) ++ [41] = R := ⟨_, rfl⟩
    have e1 : y = B0 ++ (Lib.itoa x.At ++ 58 :: (B1 ++ R)) ++ B4 := by rw [h.eq, ← hR]; simp
    obtain ⟨D, hD⟩ : ∃ D, Lib.itoa x.At = D := ⟨_, rfl⟩
    rw [hD] at e1 d1 d2 d3 d4
    have ht : trimF (ofB y) = ofB (D ++ 58 :: (B1 ++ R)) := by
      rw [e1]
      cases D with
      | nil => simp at d3
      | cons a r =>
        refine trim_core (fun c hc => sp_blk (h.b0 c hc)) h.b4 rfl (dig_blk (d1 a (by simp))) (r' := a :: r ++ 58 :: (B1 ++ 40 :: (B2 ++ w0 ++ tailI L ++ B3))) (z := 41) ?_ b41
        rw [← hR]
        simp
    have h58 : (58 : UInt8) ∉ D := fun hc => by have := d1 58 hc; have e : (58 : UInt8).toNat = 58 := rfl; omega
    have htr : trimF (ofB (B1 ++ R)) = ofB R := by
      have := trim_core (B0 := B1) (B4 := []) (c := R) (a := 40) (z := 41) (fun c hc => sp_blk (h.b1 c hc)) (by simp) hR.symm b40 hR.symm b41
      simpa using this
    rw [ht]
    constructor
    · unfold skipF
      rw [ofB_size, bl_ofB]
      cases D with
      | nil => simp at d3
      | cons a r =>
        have : a ≠ 59 := ne_nat (n := 59) (by omega) (by have := d1 a (by simp); omega)
        simp [this]
    · have hclk : clockF (ofB (D ++ 58 :: (B1 ++ R))) = some (x.At, ofB R) := by
        unfold clockF
        rw [colon_app (bl_ofB _) h58]
        simp only
        rw [trim_free (fun c hc => dig_blk (d1 c hc))]
        unfold timeF
        rw [ofB_size, if_pos ⟨d3, by omega⟩, bl_ofB, d2]
        simp only
        rw [htr]
      unfold stepF
      rw [if_pos rfl, hclk]
      simp only
      rw [← hR, hw]
      exact hend x.At (by omega)
/-- lines of steps, and lines that do not count -/
inductive LinesOk (timed : Bool) : List GStep → List (List UInt8) → Prop
  | nil : LinesOk timed [] []
  | skip {y : List UInt8} {l : List GStep} {Y : List (List UInt8)} : skipF (trimF (ofB y)) = true → LinesOk timed l Y → LinesOk timed l (y :: Y)
  | line {x : GStep} {y : List UInt8} {l : List GStep} {Y : List (List UInt8)} : skipF (trimF (ofB y)) = false → stepF (trimF (ofB y)) timed = (x, 0) → LinesOk timed l Y → LinesOk timed (x :: l) (y :: Y)
theorem lines_parse {timed : Bool} {l : List GStep} {Y : List (List UInt8)} (h : LinesOk timed l Y) (Z : List ByteArray) : ∀ (n : Nat) (acc : List GStep), parseL timed n acc (Y.map ofB ++ Z) = parseL timed (n + Y.length) (acc ++ l) Z := by
  induction h with
  | nil => intro n acc; simp
  | @skip y l Y h1 _ ih =>
    intro n acc
    rw [List.map_cons, List.cons_append, parseL, if_pos h1, ih, List.length_cons, show n + 1 + Y.length = n + (Y.length + 1) by omega]
  | @line x y l Y h1 h2 _ ih =>
    intro n acc
    rw [List.map_cons, List.cons_append, parseL, if_neg (by rw [h1]; simp), h2, if_pos rfl, ih, List.length_cons, show n + 1 + Y.length = n + (Y.length + 1) by omega, List.append_assoc]
    rfl
theorem split_lines (Z : List UInt8) : ∀ (Y : List (List UInt8)), (∀ y ∈ Y, (10 : UInt8) ∉ y) → splitL 10 ((Y.map (· ++ [10])).flatten ++ Z) = Y ++ splitL 10 Z
  | [], _ => rfl
  | y :: Y, h => by
    have e : ((y :: Y).map (· ++ [10])).flatten ++ Z = y ++ 10 :: ((Y.map (· ++ [10])).flatten ++ Z) := by simp
    rw [e, splitL_app (h y (by simp)), split_lines Z Y (fun z hz => h z (by simp [hz]))]
    rfl
/-- the line of a step, without its end -/
def bodyL (timed : Bool) (x : GStep) : List UInt8 := (if timed then Lib.itoa x.At ++ [58, 32] else []) ++ (40 :: (bl x.Name ++ argsL x.Args) ++ [41])
theorem line_body (timed : Bool) (x : GStep) : lineL timed x = bodyL timed x ++ [10] := by unfold lineL bodyL; simp
theorem text_lines (timed : Bool) (l : List GStep) : textL timed l = ((l.map (bodyL timed)).map (· ++ [10])).flatten := by
  unfold textL
  rw [List.map_map]
  congr 1
  exact List.map_congr_left (fun x _ => line_body timed x)
theorem body_free {timed : Bool} {x : GStep} (hg : goodF x = true) (hr : rngF timed x = true) : (10 : UInt8) ∉ bodyL timed x := by
  obtain ⟨g1, g2⟩ := good_of hg
  obtain ⟨r0, r1, _⟩ := rng_of hr
  obtain ⟨d1, _⟩ := itoa_at r0 r1
  have hn : ∀ {a : ByteArray}, nameF a = true → (10 : UInt8) ∉ bl a := fun {a} ha hc => by
    have := name_chars ha 10 hc
    have e : (10 : UInt8).toNat = 10 := rfl
    omega
  have hd : (10 : UInt8) ∉ Lib.itoa x.At := fun hc => by
    have := d1 10 hc
    have e : (10 : UInt8).toNat = 10 := rfl
    omega
  have ha : (10 : UInt8) ∉ argsL x.Args := fun hc => by
    unfold argsL at hc
    rw [List.mem_flatten] at hc
    obtain ⟨m, h1, h2⟩ := hc
    obtain ⟨a, h3, rfl⟩ := List.mem_map.1 h1
    rcases List.mem_cons.1 h2 with h | h
    · simp at h
    · exact hn (g1 a h3) h
  have := hn g2
  unfold bodyL
  cases timed <;> simp [hd, ha, this]
theorem skip_nil : skipF (trimF (ofB [])) = true := by decide
end Go.Proofs.YtljekaadbabhkaaDoor.Am
/- Plain: comments, blanks and capital letters do not matter; PlanfileComments is true. -/
namespace Go.Proofs.YtljekaadbabhkaaDoor.Am
open Go.RowKit

/-- what may stand for a byte of a line -/
def Piece (c : UInt8) (p : List UInt8) : Prop :=
  if c = 32 then p = [32] ∨ p = [32, 32] ∨ p = [32, 9]
  else if c = 40 then p = [40] ∨ p = [40, 32] ∨ p = [32, 40]
  else if c = 41 then p = [41] ∨ p = [32, 41] ∨ p = [41, 32] ∨ p = [41, 13]
  else p = [c] ∨ (97 ≤ c.toNat ∧ c.toNat ≤ 122 ∧ p = [UInt8.ofNat (c.toNat - 32)])
/-- what may stand ahead of a line -/
def Begin (p : List UInt8) : Prop := p = [] ∨ p = [10] ∨ p = [59, 32, 40, 120, 41, 32, 121, 10] ∨ p = [9, 32, 10] ∨ p = [32] ∨ p = [9]
inductive Chg : List UInt8 → List UInt8 → Prop
  | nil : Chg [] []
  | cons {c : UInt8} {p l m : List UInt8} : Piece c p → Chg l m → Chg (c :: l) (p ++ m)
theorem Chg.app {a b m : List UInt8} (h : Chg (a ++ b) m) : ∃ x y, m = x ++ y ∧ Chg a x ∧ Chg b y := by
  induction a generalizing m with
  | nil => exact ⟨[], m, rfl, .nil, h⟩
  | cons c a ih =>
    rw [List.cons_append] at h
    cases h with
    | @cons _ p _ m' hp ht =>
      obtain ⟨x, y, e, h1, h2⟩ := ih ht
      exact ⟨p ++ x, y, by rw [e, List.append_assoc], .cons hp h1, h2⟩
theorem Chg.inv {c : UInt8} {l m : List UInt8} (h : Chg (c :: l) m) : ∃ p m', m = p ++ m' ∧ Piece c p ∧ Chg l m' := by
  cases h with
  | cons hp ht => exact ⟨_, _, rfl, hp, ht⟩
theorem Chg.length {l m : List UInt8} (h : Chg l m) : m.length ≤ 2 * l.length := by
  induction h with
  | nil => simp
  | @cons c p l m hp _ ih =>
    have hl : p.length ≤ 2 := by
      unfold Piece at hp
      split at hp
      · rcases hp with rfl | rfl | rfl <;> simp
      · split at hp
        · rcases hp with rfl | rfl | rfl <;> simp
        · split at hp
          · rcases hp with rfl | rfl | rfl | rfl <;> simp
          · rcases hp with rfl | ⟨_, _, rfl⟩ <;> simp
    rw [List.length_append, List.length_cons]
    omega
/-- bytes that stay as they are -/
theorem Chg.fix {l m : List UInt8} (h : Chg l m) (hl : ∀ c ∈ l, (48 ≤ c.toNat ∧ c.toNat ≤ 58)) : m = l := by
  induction h with
  | nil => rfl
  | @cons c p l m hp _ ih =>
    have hc := hl c (by simp)
    have h1 : c ≠ 32 := ne_nat (n := 32) (by omega) (by omega)
    have h2 : c ≠ 40 := ne_nat (n := 40) (by omega) (by omega)
    have h3 : c ≠ 41 := ne_nat (n := 41) (by omega) (by omega)
    unfold Piece at hp
    rw [if_neg h1, if_neg h2, if_neg h3] at hp
    rcases hp with rfl | ⟨q, _⟩
    · rw [ih (fun d hd => hl d (by simp [hd]))]
      rfl
    · omega
/-- a word -/
theorem Chg.word {l m : List UInt8} (h : Chg l m) (hl : ∀ c ∈ l, (97 ≤ c.toNat ∧ c.toNat ≤ 122) ∨ (48 ≤ c.toNat ∧ c.toNat ≤ 57) ∨ c.toNat = 45 ∨ c.toNat = 95) : (∀ c ∈ m, okc c = true) ∧ m.map lowB = l ∧ m.length = l.length := by
  induction h with
  | nil => exact ⟨by simp, rfl, rfl⟩
  | @cons c p l m hp _ ih =>
    obtain ⟨i1, i2, i3⟩ := ih (fun d hd => hl d (by simp [hd]))
    have hc := hl c (by simp)
    have h1 : c ≠ 32 := ne_nat (n := 32) (by omega) (by omega)
    have h2 : c ≠ 40 := ne_nat (n := 40) (by omega) (by omega)
    have h3 : c ≠ 41 := ne_nat (n := 41) (by omega) (by omega)
    unfold Piece at hp
    rw [if_neg h1, if_neg h2, if_neg h3] at hp
    rcases hp with rfl | ⟨q1, q2, rfl⟩
    · refine ⟨fun d hd => ?_, ?_, by simp [i3]⟩
      · rcases List.mem_cons.1 hd with rfl | hd
        · unfold okc
          simp only [Bool.or_eq_true, Bool.and_eq_true, decide_eq_true_eq]
          omega
        · exact i1 d hd
      · rw [List.singleton_append, List.map_cons, i2, lowB_id (by omega)]
    · have e : (UInt8.ofNat (c.toNat - 32)).toNat = c.toNat - 32 := by simp; omega
      refine ⟨fun d hd => ?_, ?_, by simp [i3]⟩
      · rcases List.mem_cons.1 hd with rfl | hd
        · unfold okc
          simp only [Bool.or_eq_true, Bool.and_eq_true, decide_eq_true_eq, e]
          omega
        · exact i1 d hd
      · rw [List.singleton_append, List.map_cons, i2]
        congr 1
        unfold lowB
        rw [if_pos (by rw [e]; omega), e]
        apply UInt8.toNat_inj.1
        simp
        omega
theorem Chg.sp32 {p : List UInt8} (h : Piece 32 p) : p ≠ [] ∧ ∀ c ∈ p, sp c = true := by
  unfold Piece at h
  rw [if_pos rfl] at h
  rcases h with rfl | rfl | rfl <;> exact ⟨by simp, by decide⟩
theorem Chg.args : ∀ {l : List ByteArray} {m : List UInt8}, Chg (argsL l) m → (∀ a ∈ l, nameF a = true) → ∃ L, m = tailI L ∧ (∀ p ∈ L, SepOk p) ∧ L.map (fun p => p.2.map lowB) = l.map bl
  | [], m, h, _ => by
    cases h
    exact ⟨[], rfl, by simp, rfl⟩
  | a :: r, m, h, ha => by
    rw [argsL_cons, List.cons_append] at h
    obtain ⟨s, m1, e1, hs, ht⟩ := h.inv
    obtain ⟨w, m2, e2, hw, ht2⟩ := ht.app
    obtain ⟨L, e3, h3, h4⟩ := Chg.args ht2 (fun b hb => ha b (by simp [hb]))
    have hna := ha a (by simp)
    obtain ⟨w1, w2, w3⟩ := hw.word (name_chars hna)
    obtain ⟨s1, s2⟩ := Chg.sp32 hs
    have hne : w ≠ [] := fun e => by
      have h5 := (name_size hna).1
      rw [← bl_len, ← w3, e] at h5
      simp at h5
    refine ⟨(s, w) :: L, ?_, ?_, ?_⟩
    · rw [tailI_cons, e1, e2, e3, List.append_assoc]
    · intro p hp
      rcases List.mem_cons.1 hp with rfl | hp
      · exact ⟨s1, s2, hne, w1⟩
      · exact h3 p hp
    · rw [List.map_cons, List.map_cons, h4, w2]
/-- the body of a line, changed, is a line of the step still -/
theorem Chg.body {timed : Bool} {x : GStep} {m B : List UInt8} (h : Chg (bodyL timed x) m) (hB : ∀ c ∈ B, sp c = true) (hg : goodF x = true) (hr : rngF timed x = true) : ∃ B0 B1 B2 B3 B4 w0 L, LineOk timed x (B ++ m) B0 B1 B2 B3 B4 w0 L := by
  obtain ⟨g1, g2⟩ := good_of hg
  obtain ⟨r0, r1, _⟩ := rng_of hr
  obtain ⟨d1, d2, d3, d4⟩ := itoa_at r0 r1
  unfold bodyL at h
  obtain ⟨mt, mr, e0, ht, hrest⟩ := h.app
  rw [List.cons_append] at hrest
  obtain ⟨p40, m1, e1, h40, h1⟩ := hrest.inv
  rw [List.append_assoc] at h1
  obtain ⟨w0, m2, e2, hw, h2⟩ := h1.app
  obtain ⟨ma, m3, e3, ha, h3⟩ := h2.app
  obtain ⟨p41, m4, e4, h41, h4⟩ := h3.inv
  cases h4
  rw [List.append_nil] at e4
  obtain ⟨L, eL, hL, hLa⟩ := Chg.args ha g1
  obtain ⟨w1, w2, w3⟩ := hw.word (name_chars g2)
  have hne : w0 ≠ [] := fun e => by
    have h5 := (name_size g2).1
    rw [← bl_len, ← w3, e] at h5
    simp at h5
  obtain ⟨Ba, B2, ep, ha1, hb2⟩ : ∃ Ba B2, p40 = Ba ++ 40 :: B2 ∧ (∀ c ∈ Ba, sp c = true) ∧ ∀ c ∈ B2, sp c = true := by
    unfold Piece at h40
    rw [if_neg (by decide), if_pos rfl] at h40
    rcases h40 with rfl | rfl | rfl
    · exact ⟨[], [], rfl, by simp, by simp⟩
    · exact ⟨[], [32], rfl, by simp, by decide⟩
    · exact ⟨[32], [], rfl, by decide, by simp⟩
  obtain ⟨B3, B4, eq, hb3, hb4⟩ : ∃ B3 B4, p41 = B3 ++ 41 :: B4 ∧ (∀ c ∈ B3, sp c = true) ∧ ∀ c ∈ B4, blk c = true := by
    unfold Piece at h41
    rw [if_neg (by decide), if_neg (by decide), if_pos rfl] at h41
    rcases h41 with rfl | rfl | rfl | rfl
    · exact ⟨[], [], rfl, by simp, by simp⟩
    · exact ⟨[32], [], rfl, by decide, by simp⟩
    · exact ⟨[], [32], rfl, by simp, by decide⟩
    · exact ⟨[], [13], rfl, by simp, by decide⟩
  cases timed with
  | false =>
    rw [if_neg (by simp)] at ht
    cases ht
    refine ⟨B ++ Ba, [], B2, B3, B4, w0, L, ?_, ?_, by simp, hb2, hb3, hb4, hne, w1, hL, w2, hLa⟩
    · rw [e0, e1, e2, e3, e4, ep, eq, eL]
      simp
    · intro c hc
      rcases List.mem_append.1 hc with h | h
      · exact hB c h
      · exact ha1 c h
  | true =>
    rw [if_pos rfl, show Lib.itoa x.At ++ [58, 32] = (Lib.itoa x.At ++ [58]) ++ [32] by simp] at ht
    obtain ⟨md, ms, e5, hd, hs⟩ := ht.app
    have e6 : md = Lib.itoa x.At ++ [58] := hd.fix (fun c hc => by
      rcases List.mem_append.1 hc with h | h
      · have := d1 c h; omega
      · simp at h; subst h; decide)
    obtain ⟨s, m5, e7, hs1, hs2⟩ := hs.inv
    cases hs2
    rw [List.append_nil] at e7
    obtain ⟨s1, s2⟩ := Chg.sp32 hs1
    refine ⟨B, s ++ Ba, B2, B3, B4, w0, L, ?_, hB, ?_, hb2, hb3, hb4, hne, w1, hL, w2, hLa⟩
    · rw [e0, e1, e2, e3, e4, ep, eq, eL, e5, e6, e7]
      simp
    · intro c hc
      rcases List.mem_append.1 hc with h | h
      · exact s2 c h
      · exact ha1 c h
theorem Piece.free {c : UInt8} {p : List UInt8} (h : Piece c p) (hc : c ≠ 10) : (10 : UInt8) ∉ p := by
  unfold Piece at h
  split at h
  · rcases h with rfl | rfl | rfl <;> decide
  · split at h
    · rcases h with rfl | rfl | rfl <;> decide
    · split at h
      · rcases h with rfl | rfl | rfl | rfl <;> decide
      · rcases h with rfl | ⟨h1, h2, rfl⟩
        · simpa using Ne.symm hc
        · have e : (UInt8.ofNat (c.toNat - 32)).toNat = c.toNat - 32 := by simp; omega
          intro hm
          rw [List.mem_singleton] at hm
          have := congrArg UInt8.toNat hm
          rw [e] at this
          have e2 : (10 : UInt8).toNat = 10 := rfl
          omega
theorem Chg.free {l m : List UInt8} (h : Chg l m) (hl : (10 : UInt8) ∉ l) : (10 : UInt8) ∉ m := by
  induction h with
  | nil => simp
  | @cons c p l m hp _ ih =>
    intro hm
    rcases List.mem_append.1 hm with h | h
    · exact hp.free (fun e => hl (by rw [e]; simp)) h
    · exact ih (fun e => hl (by simp [e])) h
/-- a text, changed: what stands ahead of each line, and the line's bytes -/
inductive ChgT : List (List UInt8) → List UInt8 → Prop
  | nil : ChgT [] []
  | cons {y b m : List UInt8} {Y : List (List UInt8)} {t : List UInt8} : Begin b → Chg y m → ChgT Y t → ChgT (y :: Y) (b ++ m ++ [10] ++ t)
theorem trT_lines {timed : Bool} : ∀ {l : List GStep} {t : List UInt8}, ChgT (l.map (bodyL timed)) t → (∀ x ∈ l, goodF x = true ∧ rngF timed x = true) → ∃ Y, t = (Y.map (· ++ [10])).flatten ∧ (∀ y ∈ Y, (10 : UInt8) ∉ y) ∧ LinesOk timed l Y
  | [], t, h, _ => by
    cases h
    exact ⟨[], rfl, by simp, .nil⟩
  | x :: r, t, h, hgr => by
    cases h with
    | @cons y b m Y0 t0 hb hm ht =>
      obtain ⟨hg, hr⟩ := hgr x (by simp)
      obtain ⟨Y, e1, e2, e3⟩ := trT_lines ht (fun z hz => hgr z (by simp [hz]))
      have hfree := hm.free (body_free hg hr)
      have key : ∀ B : List UInt8, (∀ c ∈ B, sp c = true) → (10 : UInt8) ∉ B → ∃ Y', B ++ m ++ [10] ++ t0 = (Y'.map (· ++ [10])).flatten ∧ (∀ y ∈ Y', (10 : UInt8) ∉ y) ∧ LinesOk timed (x :: r) Y' := by
        intro B hB hB10
        obtain ⟨B0, B1, B2, B3, B4, w0, L, hl⟩ := hm.body hB hg hr
        obtain ⟨s1, s2⟩ := line_step hl hg hr
        refine ⟨(B ++ m) :: Y, ?_, ?_, .line s1 s2 e3⟩
        · rw [e1]; simp
        · intro y hy
          rcases List.mem_cons.1 hy with rfl | hy
          · simp [hB10, hfree]
          · exact e2 y hy
      have skip : ∀ b0 : List UInt8, skipF (trimF (ofB b0)) = true → (10 : UInt8) ∉ b0 → ∃ Y', (b0 ++ [10]) ++ m ++ [10] ++ t0 = (Y'.map (· ++ [10])).flatten ∧ (∀ y ∈ Y', (10 : UInt8) ∉ y) ∧ LinesOk timed (x :: r) Y' := by
        intro b0 hs h10
        obtain ⟨Y', f1, f2, f3⟩ := key [] (by simp) (by simp)
        refine ⟨b0 :: Y', ?_, ?_, .skip hs f3⟩
        · rw [List.map_cons, List.flatten_cons, ← f1]
          simp
        · intro y hy
          rcases List.mem_cons.1 hy with rfl | hy
          · exact h10
          · exact f2 y hy
      rcases hb with rfl | rfl | rfl | rfl | rfl | rfl
      · exact key [] (by simp) (by simp)
      · exact skip [] skip_nil (by simp)
      · exact skip [59, 32, 40, 120, 41, 32, 121] (by kernel_rfl) (by decide)
      · exact skip [9, 32] (by kernel_rfl) (by decide)
      · exact key [32] (by decide) (by decide)
      · exact key [9] (by decide) (by decide)
theorem trT_len {timed : Bool} : ∀ {l : List GStep} {t : List UInt8}, ChgT (l.map (bodyL timed)) t → (∀ x ∈ l, goodF x = true ∧ rngF timed x = true) → t.length ≤ 2 * (textL timed l).length + 8 * l.length
  | [], t, h, _ => by
    cases h
    simp
  | x :: r, t, h, hgr => by
    cases h with
    | @cons y b m Y0 t0 hb hm ht =>
      have h1 := trT_len ht (fun z hz => hgr z (by simp [hz]))
      have h2 := hm.length
      have h3 : b.length ≤ 8 := by rcases hb with rfl | rfl | rfl | rfl | rfl | rfl <;> simp
      rw [textL_cons, line_body]
      simp only [List.length_append, List.length_cons, List.length_nil]
      omega
end Go.Proofs.YtljekaadbabhkaaDoor.Am
