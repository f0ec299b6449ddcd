/- stratagemlaw13.PlanfileParses returns true for every input. No condition beyond the card's own. -/
import Derived.Test.YtljekaadbabhkaaDoorB2
import Derived.Lib.SplitLaws
import Derived.Lib.IndexMore
import Derived.Test.YtljekaadbabhkaaDoorB3
import Derived.Lib.TrimUEq
import Derived.Lib.MapLaws
import Derived.Lib.SpaceUEq
import Derived.Lib.FieldsP
import Derived.Test.YtljekaadbabhkaaDoorB1
import Derived.Deep.Slices
import Derived.Deep.Fields
import Derived.ChangeSame
import Derived.SizedLaws
import Derived.Lib.SmallJoins
import Derived.Below
import Derived.OpenShut
import Derived.Carry
/- Plain laws of texts: split at a byte, cut at a byte, words, and words for models. -/
namespace Go.Proofs.YtljekaadbabhkaaDoor.Am
open Go.RowKit

/-- the bytes of a text -/
abbrev bl (s : ByteArray) : List UInt8 := s.data.toList
def ofB (l : List UInt8) : ByteArray := ⟨l.toArray⟩
theorem bl_ofB (l : List UInt8) : bl (ofB l) = l := by simp [bl, ofB]
theorem ofB_bl (s : ByteArray) : ofB (bl s) = s := by obtain ⟨⟨l⟩⟩ := s; rfl
theorem bl_inj {s t : ByteArray} (h : bl s = bl t) : s = t := by rw [← ofB_bl s, ← ofB_bl t, h]
theorem bl_len (s : ByteArray) : (bl s).length = s.size := (Lib.size_eq s).symm
theorem toList_bl (s : ByteArray) : s.toList = bl s := ByteArray.toList_eq s
theorem bl_extract (s : ByteArray) (a b : Nat) : bl (s.extract a b) = ((bl s).drop a).take (b - a) := by rw [← toList_bl, Lib.extract_toList]
theorem bys_bl (s : ByteArray) : bys s = (bl s).map (fun c => (c.toNat : Int)) := rfl
theorem byt_bl (s : ByteArray) (n : Nat) (h : n < s.size) : byt s (n : Int) = (((bl s)[n]'(by rw [bl_len]; exact h)).toNat : Int) := by
  show ((s.data.getD ((n : Int)).toNat 0).toNat : Int) = _
  have h2 : n < s.data.size := h
  simp only [Int.toNat_natCast, Array.getD_eq_getD_getElem?, Array.getElem?_eq_getElem h2]
  simp

/-- split at a byte -/
def splitL (c : UInt8) : List UInt8 → List (List UInt8)
  | [] => [[]]
  | x :: r => if x = c then [] :: splitL c r else (x :: (splitL c r).headD []) :: (splitL c r).tail
theorem splitL_ne (c : UInt8) (l : List UInt8) : splitL c l ≠ [] := by
  cases l with
  | nil => simp [splitL]
  | cons x r => rw [splitL]; split <;> simp
theorem splitL_cons_ne {c x : UInt8} {r h : List UInt8} {t : List (List UInt8)} (hx : x ≠ c) (hr : splitL c r = h :: t) : splitL c (x :: r) = (x :: h) :: t := by
  rw [splitL, if_neg hx, hr]; rfl
theorem splitL_free {c : UInt8} : ∀ {l : List UInt8}, c ∉ l → splitL c l = [l]
  | [], _ => rfl
  | x :: r, h => splitL_cons_ne (fun e => h (by simp [e])) (splitL_free (fun hr => h (by simp [hr])))
theorem splitL_app {c : UInt8} : ∀ {a : List UInt8} {r : List UInt8}, c ∉ a → splitL c (a ++ c :: r) = a :: splitL c r
  | [], r, _ => by rw [List.nil_append, splitL, if_pos rfl]
  | x :: a, r, h => by
    rw [List.cons_append]
    exact splitL_cons_ne (fun e => h (by simp [e])) (splitL_app (fun hr => h (by simp [hr])))
/-- a first piece and what comes behind it -/
theorem splitL_cases (c : UInt8) (l : List UInt8) : (c ∉ l ∧ splitL c l = [l]) ∨ ∃ a r, c ∉ a ∧ l = a ++ c :: r ∧ splitL c l = a :: splitL c r := by
  by_cases h : c ∈ l
  · obtain ⟨a, r, e, ha⟩ := List.append_of_mem h |> fun ⟨a, r, e⟩ => (List.eq_append_cons_of_mem h)
    exact .inr ⟨a, r, ha, e, by rw [e]; exact splitL_app ha⟩
  · exact .inl ⟨h, splitL_free h⟩
theorem splitL_len_le (c : UInt8) (l : List UInt8) : (splitL c l).length ≤ l.length + 1 := by
  induction l with
  | nil => simp [splitL]
  | cons x r ih =>
    rw [splitL]
    split
    · simp; omega
    · cases hs : splitL c r with
      | nil => simp
      | cons h t => rw [hs] at ih; simp at ih ⊢; omega
theorem splitL_total (c : UInt8) (l : List UInt8) : ((splitL c l).map List.length).sum + (splitL c l).length = l.length + 1 := by
  induction l with
  | nil => simp [splitL]
  | cons x r ih =>
    rw [splitL]
    split
    · simp; omega
    · cases hs : splitL c r with
      | nil => exact absurd hs (splitL_ne c r)
      | cons h t => rw [hs] at ih; simp at ih ⊢; omega
theorem le_sum_of {n : Nat} : ∀ {l : List Nat}, n ∈ l → n ≤ l.sum
  | x :: l, h => by
    rcases List.mem_cons.1 h with rfl | h
    · simp
    · have := le_sum_of h
      simp
      omega
theorem splitL_mem_len {c : UInt8} {l w : List UInt8} (h : w ∈ splitL c l) : w.length ≤ l.length := by
  have h1 := splitL_total c l
  have h2 : w.length ≤ ((splitL c l).map List.length).sum := le_sum_of (List.mem_map.2 ⟨w, h, rfl⟩)
  have h3 : 1 ≤ (splitL c l).length := by cases hs : splitL c l with
    | nil => exact absurd hs (splitL_ne c l)
    | cons a b => simp
  omega

theorem index_one_none {c : UInt8} {l : List UInt8} (h : c ∉ l) : Lib.index l [c] = -1 := by
  induction l with
  | nil => rfl
  | cons x r ih =>
    have hx : c ≠ x := fun e => h (by simp [e])
    rw [Lib.index]
    simp [List.isPrefixOf, hx, ih (fun hr => h (by simp [hr]))]
theorem index_one_app {c : UInt8} {a r : List UInt8} (h : c ∉ a) : Lib.index (a ++ c :: r) [c] = a.length := by
  induction a with
  | nil => rw [List.nil_append, Lib.index]; simp [List.isPrefixOf]
  | cons x a ih =>
    have hx : c ≠ x := fun e => h (by simp [e])
    have ih' := ih (fun hr => h (by simp [hr]))
    rw [List.cons_append, Lib.index, ih']
    have : ¬ ((a.length : Int) = -1) := by omega
    simp [List.isPrefixOf, hx, this]
/-- strings.Split at one byte -/
theorem split_eq (c : UInt8) : ∀ (n : Nat) (s : ByteArray), s.size ≤ n → Lib.splitB ⟨#[c]⟩ 0 (Lib.countB s ⟨#[c]⟩) s = (splitL c (bl s)).map ofB := by
  intro n
  induction n with
  | zero =>
    intro s hs
    have h0 : bl s = [] := List.length_eq_zero_iff.1 (by rw [bl_len]; omega)
    have hi : Lib.indexB s ⟨#[c]⟩ = -1 := by show Lib.index (bl s) [c] = -1; rw [h0]; rfl
    rw [Lib.splitB_miss _ _ _ _ hi, h0]
    simp [splitL, ← h0, ofB_bl]
  | succ n ih =>
    intro s hs
    rcases splitL_cases c (bl s) with ⟨h1, h2⟩ | ⟨a, r, h1, h2, h3⟩
    · have hi : Lib.indexB s ⟨#[c]⟩ = -1 := index_one_none h1
      rw [Lib.splitB_miss _ _ _ _ hi, h2]
      simp [ofB_bl]
    · have hi : Lib.indexB s ⟨#[c]⟩ = (a.length : Nat) := by show Lib.index (bl s) [c] = _; rw [h2]; exact index_one_app h1
      have hlen : s.size = a.length + 1 + r.length := by rw [← bl_len, h2]; simp; omega
      have hone : (⟨#[c]⟩ : ByteArray).size = 1 := rfl
      have hx : bl (s.extract (a.length + 1) s.size) = r := by
        rw [bl_extract, h2, show a.length + 1 = (a ++ [c]).length from by simp, show a ++ c :: r = (a ++ [c]) ++ r from by simp, List.drop_left]
        apply List.take_of_length_le
        simp; omega
      rw [Lib.countB_hit s _ a.length (by rw [hone]; exact Nat.le_refl 1) hi, Nat.add_comm 1, Lib.splitB_hit _ _ _ _ _ hi, hone, ih _ (by rw [← bl_len, hx]; omega), hx, h3]
      simp only [List.map_cons, Nat.add_zero]
      congr 1
      apply bl_inj
      rw [bl_extract, bl_ofB, h2]
      simp
/-- cut at one byte -/
theorem cut_none {c : UInt8} {l : List UInt8} (h : c ∉ l) : Lib.cut l [c] = (l, [], false) := by
  rw [Lib.cut, if_neg (by rw [index_one_none h]; decide)]
theorem cut_app {c : UInt8} {a r : List UInt8} (h : c ∉ a) : Lib.cut (a ++ c :: r) [c] = (a, r, true) := by
  rw [Lib.cut, index_one_app h, if_pos (by omega)]
  simp

section
variable {α β γ δ : Type}
theorem sel_dec {p : Prop} [Decidable p] {x y : Option α} : sel (decide p) x y = if p then x else y := by
  unfold sel
  by_cases h : p <;> simp [h]
theorem sel_not {b : Bool} {x y : Option α} : sel (!b) x y = sel b y x := by cases b <;> rfl
theorem sel_tt {x y : Option α} : sel true x y = x := rfl
theorem sel_ff {x y : Option α} : sel false x y = y := rfl
theorem grd_t {p : Prop} [Decidable p] {x : Option α} (h : p) : grd p x = x := if_pos h
theorem ixn_at {l : List α} {n : Nat} {y : α} {k : α → Option β} (h : l[n]? = some y) : ixn l n k = k y := by rw [ixn, h]
theorem ix_at {l : List α} {n : Nat} {y : α} {k : α → Option β} (h : l[n]? = some y) : ix l (n : Int) k = k y := by
  rw [ix, Int.toNat_natCast, ixn_at h, grd_t (Int.natCast_nonneg n)]
theorem ob1_some {a : α} {k : α → Option β} : ob1 (some a) k = k a := rfl
theorem ob2_some {a : α} {b : β} {k : α → β → Option γ} : ob2 (some (a, b)) k = k a b := rfl
theorem ob3_some {a : α} {b : β} {c : γ} {k : α → β → γ → Option δ} : ob3 (some (a, b, c)) k = k a b c := rfl
theorem osum_inl {f : α → Option γ} {g : β → Option γ} {a : α} : osum f g (.inl a) = f a := rfl
theorem osum_inr {f : α → Option γ} {g : β → Option γ} {b : β} : osum f g (.inr b) = g b := rfl
theorem w64 {z : Int} (h1 : -9223372036854775808 ≤ z) (h2 : z ≤ 9223372036854775807) : IntKind.i64.wrap z = z := wrap_eq h1 h2
theorem w64s {n : Nat} (h : n < 9223372036854775807) : IntKind.i64.wrap ((n : Int) + 1) = ((n + 1 : Nat) : Int) := by rw [w64 (by omega) (by omega)]; rfl
theorem drop_at {l : List α} {n : Nat} (h : n < l.length) : ∃ y, l[n]? = some y ∧ l.drop n = y :: l.drop (n + 1) := ⟨l[n], List.getElem?_eq_getElem h, List.drop_eq_getElem_cons h⟩
end
end Go.Proofs.YtljekaadbabhkaaDoor.Am
/- Range loops as recursions. -/
namespace Go.Proofs.YtljekaadbabhkaaDoor.Am
section
variable {α β γ : Type}
end
end Go.Proofs.YtljekaadbabhkaaDoor.Am
/- Range loops of the models as recursions. -/
namespace Go.Proofs.YtljekaadbabhkaaDoor.Am
end Go.Proofs.YtljekaadbabhkaaDoor.Am
/- Plain laws: strings.FieldsFunc at blanks and tabs, by bytes. -/
namespace Go.Proofs.YtljekaadbabhkaaDoor.Am
open Go.RowKit

def sp (c : UInt8) : Bool := c == 32 || c == 9
/-- the parts between blanks; 'cur' is the part that is begun -/
def fld (cur : List UInt8) : List UInt8 → List (List UInt8)
  | [] => if cur = [] then [] else [cur]
  | c :: r => if sp c then (if cur = [] then fld [] r else cur :: fld [] r) else fld (cur ++ [c]) r
theorem fld_skip : ∀ (k : Nat) (cur l : List UInt8), k ≤ l.length → (∀ j, j < k → sp (l.getD j 0) = false) → fld cur l = fld (cur ++ l.take k) (l.drop k)
  | 0, cur, l, _, _ => by simp
  | k + 1, cur, [], h, _ => by simp at h
  | k + 1, cur, b :: t, h, hz => by
    have h0 : sp b = false := hz 0 (by omega)
    rw [fld, if_neg (by rw [h0]; simp), fld_skip k (cur ++ [b]) t (by simp at h; omega) (fun j hj => hz (j + 1) (by omega))]
    simp
theorem sp_iff {b : UInt8} (h : sp b = true) : b.toNat = 32 ∨ b.toNat = 9 := by
  simp only [sp, Bool.or_eq_true, beq_iff_eq] at h
  rcases h with rfl | rfl
  · exact .inl rfl
  · exact .inr rfl
theorem sp_of {b : UInt8} (h : b.toNat ≠ 32 ∧ b.toNat ≠ 9) : sp b = false := by
  cases hb : sp b with
  | false => rfl
  | true => rcases sp_iff hb with e | e <;> omega
theorem sp_to {b : UInt8} (h : b.toNat = 32 ∨ b.toNat = 9) : sp b = true := by
  rcases h with h | h
  · have : b = 32 := by apply UInt8.toNat_inj.1; simpa using h
    subst this; rfl
  · have : b = 9 := by apply UInt8.toNat_inj.1; simpa using h
    subst this; rfl
theorem spaceR_iff {x : Nat} : spaceR x = true ↔ x = 32 ∨ x = 9 := by simp [spaceR]
/-- what a rune is that the decoder hands out -/
theorem rune_sp (l : List UInt8) (hne : l ≠ []) : (spaceR (Lib.decodeL l).1 = true → (Lib.decodeL l).2 = 1 ∧ sp (l.getD 0 0) = true) ∧
    (spaceR (Lib.decodeL l).1 = false → ∀ j, j < (Lib.decodeL l).2 → sp (l.getD j 0) = false) := by
  have hl : 0 < l.length := List.length_pos_iff.2 hne
  have hsh := Lib.decodeN_shape l.length (l.getD 0 0).toNat (l.getD 1 0).toNat (l.getD 2 0).toNat (l.getD 3 0).toNat
  rw [← Lib.decodeL_N] at hsh
  have hb : ∀ b : UInt8, b.toNat < 256 := fun b => UInt8.toNat_lt b
  rcases hsh with ⟨h1, h2⟩ | ⟨h1, h2, h3, h4, h5⟩ | ⟨h1, h2, h3, h4, h5, _, h6⟩ | ⟨h1, h2, h3, h4, h5, h6, _, h7⟩ | h
  · rw [h2]
    refine ⟨fun h => ⟨rfl, sp_to (by simpa [spaceR] using h)⟩, fun h j hj => ?_⟩
    obtain rfl : j = 0 := by simpa using hj
    exact sp_of (by simpa [spaceR] using h)
  · rw [h5]
    refine ⟨fun h => by have := spaceR_iff.1 h; omega, fun _ j hj => sp_of ?_⟩
    have : j = 0 ∨ j = 1 := by simp at hj; omega
    rcases this with rfl | rfl <;> omega
  · rw [h6]
    refine ⟨fun h => by have := spaceR_iff.1 h; omega, fun _ j hj => sp_of ?_⟩
    have : j = 0 ∨ j = 1 ∨ j = 2 := by simp at hj; omega
    rcases this with rfl | rfl | rfl <;> omega
  · rw [h7]
    refine ⟨fun h => by have := spaceR_iff.1 h; omega, fun _ j hj => sp_of ?_⟩
    have : j = 0 ∨ j = 1 ∨ j = 2 ∨ j = 3 := by simp at hj; omega
    rcases this with rfl | rfl | rfl | rfl <;> omega
  · rw [h]
    refine ⟨fun h => by simp [spaceR] at h, fun _ j hj => ?_⟩
    obtain rfl : j = 0 := by simpa using hj
    refine sp_of ⟨fun e => ?_, fun e => ?_⟩
    · rw [Lib.decodeL_N, e] at h; simp [Lib.decodeN] at h
    · rw [Lib.decodeL_N, e] at h; simp [Lib.decodeN] at h
theorem spansP_eq (s : ByteArray) : ∀ (f pos : Nat) (st : Option Nat) (acc : List (Nat × Nat)), s.size ≤ pos + f → pos ≤ s.size → (∀ a, st = some a → a < pos) →
    (Lib.closeSpans s (Lib.spansFromP spaceR s f pos st acc)).map (fun p => Lib.pieceU (bl s) p.1 p.2) = acc.map (fun p => Lib.pieceU (bl s) p.1 p.2) ++ fld (Lib.openPiece (bl s) st pos) ((bl s).drop pos)
  | 0, pos, st, acc, h, hp, hst => by
    obtain rfl : pos = s.size := by omega
    rw [List.drop_eq_nil_of_le (by rw [bl_len]; exact Nat.le_refl _)]
    cases st with
    | none => simp [Lib.spansFromP, Lib.closeSpans, Lib.openPiece, fld]
    | some a =>
      have := Lib.pieceU_ne (bl s) a s.size (hst a rfl) (by rw [bl_len]; exact Nat.le_refl _)
      simp [Lib.spansFromP, Lib.closeSpans, Lib.openPiece, this, fld]
  | f + 1, pos, st, acc, h, hp, hst => by
    by_cases hlt : pos < s.size
    · have hne : (bl s).drop pos ≠ [] := by
        intro h0
        have := congrArg List.length h0
        rw [List.length_drop, bl_len] at this
        simp at this
        omega
      have hw := Lib.width_pos s pos
      have hwn : pos + (Utf8.decode s pos).2 ≤ s.size := by
        have := Lib.decodeN_le_n' (s.size - pos) (s.get! pos).toNat (s.get! (pos + 1)).toNat (s.get! (pos + 2)).toNat (s.get! (pos + 3)).toNat (by omega)
        rw [← Lib.decode_at] at this
        omega
      obtain ⟨r1, r2⟩ := rune_sp _ hne
      rw [show Lib.decodeL ((bl s).drop pos) = Utf8.decode s pos from Lib.decodeL_drop s pos] at r1 r2
      simp only [Lib.spansFromP, if_pos hlt]
      cases hsp : spaceR (Utf8.decode s pos).1 with
      | true =>
        obtain ⟨hw1, hs1⟩ := r1 hsp
        have hd : (bl s).drop pos = ((bl s).drop pos).getD 0 0 :: (bl s).drop (pos + 1) := by
          rw [List.drop_eq_getElem_cons (by rw [bl_len]; exact hlt)]
          rfl
        rw [hd, fld, if_pos hs1, hw1]
        rw [hw1] at hwn
        simp only [if_true]
        cases st with
        | none =>
          rw [spansP_eq s f (pos + 1) none acc (by omega) hwn (fun a h => by cases h)]
          simp [Lib.openPiece]
        | some a =>
          have hpn := Lib.pieceU_ne (bl s) a pos (hst a rfl) (by rw [bl_len]; omega)
          rw [spansP_eq s f (pos + 1) none (acc ++ [(a, pos)]) (by omega) hwn (fun a h => by cases h)]
          simp [Lib.openPiece, hpn]
      | false =>
        simp only [Bool.false_eq_true, if_false]
        have hk : (Utf8.decode s pos).2 ≤ ((bl s).drop pos).length := by rw [List.length_drop, bl_len]; omega
        rw [fld_skip _ (Lib.openPiece (bl s) st pos) ((bl s).drop pos) hk (r2 hsp), List.drop_drop]
        cases st with
        | none =>
          simp only
          rw [spansP_eq s f (pos + (Utf8.decode s pos).2) (some pos) acc (by omega) hwn (fun a h => by cases h; omega)]
          simp only [Lib.openPiece, List.nil_append]
          congr 2
          unfold Lib.pieceU
          rw [Nat.add_sub_cancel_left]
        | some a =>
          simp only
          rw [spansP_eq s f (pos + (Utf8.decode s pos).2) (some a) acc (by omega) hwn (fun b h => by cases h; have := hst a rfl; omega)]
          simp only [Lib.openPiece]
          rw [Lib.pieceU_grow _ _ _ _ (Nat.le_of_lt (hst a rfl))]
    · obtain rfl : pos = s.size := by omega
      rw [List.drop_eq_nil_of_le (by rw [bl_len]; exact Nat.le_refl _), Lib.spansFromP_end _ _ _ _ _ _ hlt]
      cases st with
      | none => simp [Lib.closeSpans, Lib.openPiece, fld]
      | some a =>
        have := Lib.pieceU_ne (bl s) a s.size (hst a rfl) (by rw [bl_len]; exact Nat.le_refl _)
        simp [Lib.closeSpans, Lib.openPiece, this, fld]
theorem fields_eq (s : ByteArray) : Lib.goFieldsP spaceR s = (fld [] (bl s)).map ofB := by
  have h := spansP_eq s s.size 0 none [] (by omega) (Nat.zero_le _) (fun a h => by cases h)
  simp only [List.map_nil, List.nil_append, Lib.openPiece, List.drop_zero] at h
  unfold Lib.goFieldsP Lib.spansOfP
  rw [← h, List.map_map]
  apply List.map_congr_left
  intro p _
  apply bl_inj
  rw [bl_extract]
  simp [Lib.pieceU, bl_ofB]
end Go.Proofs.YtljekaadbabhkaaDoor.Am
/- Plain laws of chapter 13: names, trimming. -/
namespace Go.Proofs.YtljekaadbabhkaaDoor.Am
open Go.RowKit

def cz (c : UInt8) : Int := (c.toNat : Int)
def lett (z : Int) : Bool := decide (97 ≤ z) && decide (z ≤ 122)
def rest (z : Int) : Bool := (decide (48 ≤ z) && decide (z ≤ 57)) || z == 45 || z == 95
def okN : Nat → List UInt8 → Bool
  | _, [] => true
  | n, c :: r => (lett (cz c) || (n != 0 && rest (cz c))) && okN (n + 1) r
def okR : List UInt8 → Bool
  | [] => true
  | c :: r => (lett (cz c) || rest (cz c)) && okR r
theorem okN_succ : ∀ (l : List UInt8) (n : Nat), okN (n + 1) l = okR l
  | [], _ => rfl
  | c :: r, n => by rw [okN, okR, okN_succ r (n + 1)]; simp
def resv : List ByteArray := [⟨#[97, 110, 100]⟩, ⟨#[111, 114]⟩, ⟨#[110, 111, 116]⟩, ⟨#[105, 109, 112, 108, 121]⟩, ⟨#[102, 111, 114, 97, 108, 108]⟩, ⟨#[101, 120, 105, 115, 116, 115]⟩, ⟨#[119, 104, 101, 110]⟩, ⟨#[97, 115, 115, 105, 103, 110]⟩, ⟨#[105, 110, 99, 114, 101, 97, 115, 101]⟩, ⟨#[100, 101, 99, 114, 101, 97, 115, 101]⟩, ⟨#[111, 98, 106, 101, 99, 116]⟩]
/-- a name -/
def nameF (s : ByteArray) : Bool := okN 0 (bl s) && (decide (1 ≤ s.size) && (decide (s.size ≤ 32) && !resv.any (fun r => decide (r = s))))
theorem byt_at {s : ByteArray} {n : Nat} {c : UInt8} (h : (bl s)[n]? = some c) : byt s (n : Int) = cz c := by
  obtain ⟨h1, h2⟩ := List.getElem?_eq_some_iff.1 h
  rw [byt_bl s n (by rw [← bl_len]; exact h1), h2]
  rfl
theorem beq_bl (s t : ByteArray) : (s.toList == t.toList) = decide (s = t) := by
  rw [toList_bl, toList_bl]
  by_cases h : s = t
  · subst h; simp
  · have : bl s ≠ bl t := fun e => h (bl_inj e)
    rw [beq_eq_false_iff_ne.2 this, decide_eq_false h]
theorem nameL1_eq (a0 : ByteArray) (hs : a0.size < 9223372036854775807) : ∀ (k n : Nat), n ≤ a0.size → a0.size < k + n → M_formula_Name_L1 a0 k (n : Int) = some (if okN n ((bl a0).drop n) then .inl () else .inr false)
  | 0, n, h1, h2 => by omega
  | k + 1, n, h1, h2 => by
    rw [M_formula_Name_L1]
    by_cases hn : n < a0.size
    · obtain ⟨c, hc, hd⟩ := drop_at (l := bl a0) (n := n) (by rw [bl_len]; exact hn)
      have ih := nameL1_eq a0 hs k (n + 1) hn (by omega)
      rw [hd, okN, byt_at hc, w64s (by omega), ih, sel_dec, if_pos (by omega), grd_t (by omega), grd_t (by omega)]
      have hn0 : (((n : Nat) : Int) == 0) = !(n != 0) := by cases n <;> simp <;> omega
      rw [hn0]
      obtain ⟨z, hz⟩ : ∃ z, z = cz c := ⟨_, rfl⟩
      rw [← hz]
      have hl : ob1 (sel (decide (z ≥ 97)) (some (decide (z ≤ 122))) (some false)) = fun (f : Bool → Option (Unit ⊕ Bool)) => f (lett z) := by
        funext f
        rw [sel_dec, lett]
        by_cases h : 97 ≤ z <;> simp [h, ob1]
      rw [hl]
      simp only
      cases lett z with
      | true => simp [sel]
      | false =>
        cases n != 0 with
        | false => simp [sel]
        | true =>
          have h45 : (z != 45) = !(z == 45) := rfl
          have h95 : (z != 95) = !(z == 95) := rfl
          rw [rest, h45, h95]
          simp only [sel_dec]
          by_cases h1 : z < 48
          · rw [if_pos h1]
            have : ¬ 48 ≤ z := by omega
            cases hh : z == 45 <;> cases hk : z == 95 <;> simp [sel, this]
          · rw [if_neg h1]
            have : 48 ≤ z := by omega
            by_cases h2 : z > 57
            · rw [if_pos h2]
              have : ¬ z ≤ 57 := by omega
              cases hh : z == 45 <;> cases hk : z == 95 <;> simp [sel, this]
            · rw [if_neg h2]
              have h3 : z ≤ 57 := by omega
              simp [sel, this, h3]
    · obtain rfl : n = a0.size := by omega
      rw [sel_dec, if_neg (by omega), List.drop_eq_nil_of_le (by rw [bl_len]; exact Nat.le_refl _), okN]
      rfl
theorem index_eq (l : List ByteArray) (s : ByteArray) (hl : l.length < 9223372036854775807) : ∀ (k n : Nat), n ≤ l.length → l.length < k + n → ∃ z, M_s_Index_string_L1 l s k (n : Int) = some z ∧ decide (z ≥ 0) = (l.drop n).any (fun r => decide (r = s))
  | 0, n, h1, h2 => by omega
  | k + 1, n, h1, h2 => by
    rw [M_s_Index_string_L1, sel_dec, List.length_map]
    by_cases hn : n < l.length
    · obtain ⟨y, hy, hd⟩ := drop_at hn
      rw [if_pos (by omega), ix_at hy, hd, beq_bl, sel_dec]
      by_cases he : s = y
      · rw [if_pos he]
        exact ⟨n, rfl, by simp [he]⟩
      · rw [if_neg he, w64s (by omega)]
        obtain ⟨z, h3, h4⟩ := index_eq l s hl k (n + 1) hn (by omega)
        exact ⟨z, h3, by rw [h4, List.any_cons, decide_eq_false (Ne.symm he), Bool.false_or]⟩
    · obtain rfl : n = l.length := by omega
      exact ⟨-1, by rw [if_neg (by omega)], by simp⟩
theorem name_eq (s : ByteArray) (hs : s.size < 9223372036854775807) : M_formula_Name s = some (nameF s) := by
  have h0 := nameL1_eq s hs (s.size + 1) 0 (Nat.zero_le _) (by omega)
  rw [M_formula_Name, Int.toNat_natCast, show (0 : Int) = ((0 : Nat) : Int) from rfl, h0, List.drop_zero, nameF]
  cases okN 0 (bl s) with
  | false => rfl
  | true =>
    rw [if_pos rfl, ob1_some, osum_inl, M_formula_reserved, ob1_some, M_s_Contains_string, M_s_Index_string, beq_bl]
    have he : (!decide (s = (⟨#[]⟩ : ByteArray))) = decide (1 ≤ s.size) := by
      by_cases h : s = ⟨#[]⟩
      · subst h; rfl
      · have h1 : s.size ≠ 0 := fun e => h (bl_inj (List.eq_nil_of_length_eq_zero (by rw [bl_len]; exact e)))
        rw [decide_eq_false h, decide_eq_true (by omega)]
        rfl
    rw [he]
    obtain ⟨z, h3, h4⟩ := index_eq resv s (by decide) (resv.length + 1) 0 (Nat.zero_le _) (by omega)
    have h5 : M_s_Index_string_L1 resv s (((resv.map cS).length : Int).toNat + 1) 0 = some z := h3
    rw [sel_dec]
    by_cases hd1 : 1 ≤ s.size
    · rw [if_pos hd1, sel_dec]
      by_cases h32 : s.size ≤ 32
      · rw [if_pos (by omega), show ([(⟨#[97, 110, 100]⟩ : ByteArray), (⟨#[111, 114]⟩ : ByteArray), (⟨#[110, 111, 116]⟩ : ByteArray), (⟨#[105, 109, 112, 108, 121]⟩ : ByteArray), (⟨#[102, 111, 114, 97, 108, 108]⟩ : ByteArray), (⟨#[101, 120, 105, 115, 116, 115]⟩ : ByteArray), (⟨#[119, 104, 101, 110]⟩ : ByteArray), (⟨#[97, 115, 115, 105, 103, 110]⟩ : ByteArray), (⟨#[105, 110, 99, 114, 101, 97, 115, 101]⟩ : ByteArray), (⟨#[100, 101, 99, 114, 101, 97, 115, 101]⟩ : ByteArray), (⟨#[111, 98, 106, 101, 99, 116]⟩ : ByteArray)] : List ByteArray) = resv from rfl, h5, ob1_some, ob1_some, h4, List.drop_zero]
        simp [h32, hd1]
      · rw [if_neg (by omega)]
        simp [h32]
    · rw [if_neg hd1]
      simp [hd1]
theorem reserved_eq (s : ByteArray) : ∀ (k n : Nat), n ≤ 11 → 11 < k + n → M_r07_Reserved_L1 s k (n : Int) = some ((resv.drop n).any (fun r => decide (r = s)))
  | 0, n, h1, h2 => by omega
  | k + 1, n, h1, h2 => by
    rw [M_r07_Reserved_L1, sel_dec]
    by_cases hn : n < 11
    · obtain ⟨y, hy, hd⟩ := drop_at (l := resv) hn
      rw [if_pos (by omega), show ([(⟨#[97, 110, 100]⟩ : ByteArray), (⟨#[111, 114]⟩ : ByteArray), (⟨#[110, 111, 116]⟩ : ByteArray), (⟨#[105, 109, 112, 108, 121]⟩ : ByteArray), (⟨#[102, 111, 114, 97, 108, 108]⟩ : ByteArray), (⟨#[101, 120, 105, 115, 116, 115]⟩ : ByteArray), (⟨#[119, 104, 101, 110]⟩ : ByteArray), (⟨#[97, 115, 115, 105, 103, 110]⟩ : ByteArray), (⟨#[105, 110, 99, 114, 101, 97, 115, 101]⟩ : ByteArray), (⟨#[100, 101, 99, 114, 101, 97, 115, 101]⟩ : ByteArray), (⟨#[111, 98, 106, 101, 99, 116]⟩ : ByteArray)] : List ByteArray) = resv from rfl, Int.toNat_natCast, ixn_at hy, grd_t (by omega), grd_t (by omega), hd, beq_bl, w64s (by omega), reserved_eq s k (n + 1) (by omega) (by omega), sel_dec]
      by_cases he : y = s
      · rw [if_pos he, List.any_cons, decide_eq_true he, Bool.true_or]
      · rw [if_neg he, List.any_cons, decide_eq_false he, Bool.false_or]
    · obtain rfl : n = 11 := by omega
      rw [if_neg (by omega)]
      rfl
theorem rname1_eq (a0 : ByteArray) (hs : a0.size < 9223372036854775807) : ∀ (k n : Nat), n ≤ a0.size → a0.size < k + n → M_r07_Name_L1 a0 k (n : Int) = some (okR ((bl a0).drop n))
  | 0, n, h1, h2 => by omega
  | k + 1, n, h1, h2 => by
    rw [M_r07_Name_L1]
    by_cases hn : n < a0.size
    · obtain ⟨c, hc, hd⟩ := drop_at (l := bl a0) (n := n) (by rw [bl_len]; exact hn)
      have ih := rname1_eq a0 hs k (n + 1) hn (by omega)
      rw [hd, okR, byt_at hc, w64s (by omega), ih, sel_dec, if_pos (by omega), grd_t (by omega), grd_t (by omega)]
      obtain ⟨z, hz⟩ : ∃ z, z = cz c := ⟨_, rfl⟩
      rw [← hz, lett, rest, show (z != 45) = !(z == 45) from rfl, show (z != 95) = !(z == 95) from rfl]
      simp only [sel_dec]
      have tail : ∀ (x : Option Bool), x = (if z < 48 then sel (!(z == 45)) (sel (!(z == 95)) (some false) (some (okR (List.drop (n + 1) (bl a0))))) (some (okR (List.drop (n + 1) (bl a0)))) else if z > 57 then sel (!(z == 45)) (sel (!(z == 95)) (some false) (some (okR (List.drop (n + 1) (bl a0))))) (some (okR (List.drop (n + 1) (bl a0)))) else some (okR (List.drop (n + 1) (bl a0)))) → x = some (((decide (48 ≤ z) && decide (z ≤ 57)) || z == 45 || z == 95) && okR (List.drop (n + 1) (bl a0))) := by
        rintro x rfl
        by_cases h1 : z < 48
        · rw [if_pos h1]
          have : ¬ 48 ≤ z := by omega
          cases hh : z == 45 <;> cases hk : z == 95 <;> simp [sel, this]
        · rw [if_neg h1]
          have : 48 ≤ z := by omega
          by_cases h2 : z > 57
          · rw [if_pos h2]
            have : ¬ z ≤ 57 := by omega
            cases hh : z == 45 <;> cases hk : z == 95 <;> simp [sel, this]
          · rw [if_neg h2]
            have h3 : z ≤ 57 := by omega
            simp [this, h3]
      by_cases h1 : z < 97
      · rw [if_pos h1, tail _ rfl]
        have : ¬ 97 ≤ z := by omega
        simp [this]
      · rw [if_neg h1]
        have h3 : 97 ≤ z := by omega
        by_cases h2 : z > 122
        · rw [if_pos h2, tail _ rfl]
          have : ¬ z ≤ 122 := by omega
          simp [this]
        · rw [if_neg h2]
          have h4 : z ≤ 122 := by omega
          simp [h3, h4]
    · obtain rfl : n = a0.size := by omega
      rw [sel_dec, if_neg (by omega), List.drop_eq_nil_of_le (by rw [bl_len]; exact Nat.le_refl _), okR]
theorem rname_eq (s : ByteArray) {g : Nat} (hg : s.size < g) (hg2 : 12 ≤ g) (hs : s.size < 9223372036854775807) : M_r08_Name g s = some (nameF s) := by
  rw [M_r08_Name, M_r07_Name, M_r07_Reserved]
  have h0 := rname1_eq s hs g 0 (Nat.zero_le _) (by omega)
  have h1 := reserved_eq s g 0 (Nat.zero_le _) (by omega)
  rw [show (0 : Int) = ((0 : Nat) : Int) from rfl] at *
  rw [h1, h0, List.drop_zero, List.drop_zero, nameF]
  simp only [sel_dec]
  by_cases e1 : s.size < 1
  · rw [if_pos (by omega)]
    have : ¬ 1 ≤ s.size := by omega
    simp [ob1, osum, this]
  · rw [if_neg (by omega)]
    have p1 : 1 ≤ s.size := by omega
    by_cases e2 : s.size > 32
    · rw [if_pos (by omega)]
      have : ¬ s.size ≤ 32 := by omega
      simp [ob1, osum, this]
    · rw [if_neg (by omega)]
      have p2 : s.size ≤ 32 := by omega
      have p0 : 0 < s.size := by omega
      obtain ⟨c, hc, hd⟩ := drop_at (l := bl s) (n := 0) (by rw [bl_len]; omega)
      rw [List.drop_zero] at hd
      rw [hd, okN, byt_at hc, okN_succ, okR]
      obtain ⟨z, hz⟩ : ∃ z, z = cz c := ⟨_, rfl⟩
      rw [← hz, lett]
      by_cases h3 : z < 97
      · have : ¬ 97 ≤ z := by omega
        simp [h3, this, ob1, osum, grd, p0]
      · have q1 : 97 ≤ z := by omega
        by_cases h4 : z > 122
        · have : ¬ z ≤ 122 := by omega
          simp [h3, h4, this, ob1, osum, grd, p0]
        · have q2 : z ≤ 122 := by omega
          cases hr : resv.any (fun r => decide (r = s)) <;> simp [h3, h4, ob1, osum, grd, p0, p1, p2, q1, q2, sel]

/-- trimming -/
def blk (c : UInt8) : Bool := c == 32 || c == 9 || c == 13
def rdr : List UInt8 → List UInt8
  | [] => []
  | c :: r => if rdr r = [] ∧ blk c = true then [] else c :: rdr r
theorem rdr_snoc (l : List UInt8) (c : UInt8) : rdr (l ++ [c]) = if blk c then rdr l else l ++ [c] := by
  induction l with
  | nil => cases h : blk c <;> simp [rdr, h]
  | cons x r ih =>
    rw [List.cons_append, rdr, ih]
    cases h : blk c with
    | true => simp [rdr]
    | false => simp
theorem rdr_eq (l : List UInt8) : (l.reverse.dropWhile blk).reverse = rdr l := by
  obtain ⟨m, rfl⟩ : ∃ m, l = m.reverse := ⟨l.reverse, by simp⟩
  rw [List.reverse_reverse]
  induction m with
  | nil => rfl
  | cons c r ih =>
    rw [List.reverse_cons, rdr_snoc, List.dropWhile_cons]
    cases h : blk c with
    | true => simpa using ih
    | false => simp
theorem rdr_dropWhile (l : List UInt8) : rdr (l.dropWhile blk) = (rdr l).dropWhile blk := by
  induction l with
  | nil => rfl
  | cons c r ih =>
    rw [List.dropWhile_cons, rdr]
    cases h : blk c with
    | true =>
      rw [if_pos rfl, ih]
      by_cases hr : rdr r = []
      · simp [hr]
      · simp [hr, h]
    | false => simp [rdr, h]
def trimF (s : ByteArray) : ByteArray := ofB (rdr ((bl s).dropWhile blk))
theorem trim_eq (s : ByteArray) (hs : s.size ≤ 9223372036854775807) : M_strings_Trim s ⟨#[32, 9, 13]⟩ = some (trimF s) := by
  have hf : (fun b => ([32, 9, 13] : List UInt8).contains b) = blk := by
    funext b
    simp only [blk, List.contains_cons, List.contains_nil, Bool.or_false, Bool.or_assoc]
  have hp : ∀ l, Lib.trimS l [32, 9, 13] = rdr (l.dropWhile blk) := fun l => by
    rw [Lib.trimS, Lib.trimLeftS, Lib.trimRightS, hf, rdr_eq, rdr_dropWhile]
  rw [M_strings_Trim, grd_t hs, grd_t (by decide), grd_t (by decide)]
  show some (⟨(Lib.trimS (bl s) [32, 9, 13]).toArray⟩ : ByteArray) = _
  rw [hp]
  rfl
theorem blank_eq (c : UInt8) : M_r13_blank (cz c) = some (blk c) := by
  have h : ∀ n : Nat, n < 256 → (cz c == (n : Int)) = (c == UInt8.ofNat n) := fun n hn => by
    by_cases e : c = UInt8.ofNat n
    · subst e
      have : cz (UInt8.ofNat n) = (n : Int) := by simp [cz]; omega
      simp [this]
    · have h1 : cz c ≠ (n : Int) := fun e2 => e (by
        apply UInt8.toNat_inj.1
        have h3 : c.toNat = n := by simp only [cz] at e2; exact_mod_cast e2
        rw [h3]; simp; omega)
      rw [beq_eq_false_iff_ne.2 h1, beq_eq_false_iff_ne.2 e]
  have h32 := h 32 (by decide)
  have h9 := h 9 (by decide)
  have h13 := h 13 (by decide)
  rw [M_r13_blank, show (32 : Int) = ((32 : Nat) : Int) from rfl, show (9 : Int) = ((9 : Nat) : Int) from rfl, show (13 : Int) = ((13 : Nat) : Int) from rfl, h32, h9, h13, blk]
  show sel (c == 32) _ (sel (c == 9) _ (some (c == 13))) = _
  cases c == 32 <;> cases c == 9 <;> simp [sel]
theorem trimL1_eq (s : ByteArray) (hs : s.size < 9223372036854775807) : ∀ (k n : Nat), n ≤ s.size → s.size < k + n → ∃ m : Nat, M_r13_trim_L1 s k (n : Int) = some (m : Int) ∧ n ≤ m ∧ m ≤ s.size ∧ (bl s).drop m = ((bl s).drop n).dropWhile blk
  | 0, n, h1, h2 => by omega
  | k + 1, n, h1, h2 => by
    rw [M_r13_trim_L1, sel_dec]
    by_cases hn : n < s.size
    · obtain ⟨c, hc, hd⟩ := drop_at (l := bl s) (n := n) (by rw [bl_len]; exact hn)
      rw [if_pos (by omega), byt_at hc, blank_eq, ob1_some, grd_t (by omega), grd_t (by omega), w64s (by omega)]
      cases hb : blk c with
      | true =>
        obtain ⟨m, h3, h4, h5, h6⟩ := trimL1_eq s hs k (n + 1) hn (by omega)
        exact ⟨m, h3, by omega, h5, by rw [h6, hd, List.dropWhile_cons, hb]; rfl⟩
      | false => exact ⟨n, rfl, Nat.le_refl _, h1, by rw [hd, List.dropWhile_cons, hb]; rfl⟩
    · exact ⟨n, by rw [if_neg (by omega)], Nat.le_refl _, h1, by rw [List.drop_eq_nil_of_le (by rw [bl_len]; omega)]; rfl⟩
theorem trimL2_eq (s : ByteArray) (hs : s.size < 9223372036854775807) (f : Nat) : ∀ (k m : Nat), f ≤ m → m ≤ s.size → m < k + f → ∃ t, M_r13_trim_L2 s (f : Int) k (m : Int) = some t ∧ bl t = rdr (((bl s).drop f).take (m - f))
  | 0, m, h1, h2, h3 => by omega
  | k + 1, m, h1, h2, h3 => by
    rw [M_r13_trim_L2, sel_dec]
    have fin : grd (0 ≤ (f : Int)) (grd (0 ≤ (m : Int)) (grd ((f : Int).toNat ≤ (m : Int).toNat) (grd ((m : Int).toNat ≤ s.size) (some (s.extract (f : Int).toNat (m : Int).toNat))))) = some (s.extract f m) := by
      rw [grd_t (by omega), grd_t (by omega), grd_t (by omega), grd_t (by omega)]
      rfl
    rw [fin]
    by_cases hm : f < m
    · obtain ⟨q, rfl⟩ : ∃ q, m = q + 1 := ⟨m - 1, by omega⟩
      obtain ⟨c, hc, hd⟩ := drop_at (l := bl s) (n := q) (by rw [bl_len]; omega)
      have hw : IntKind.i64.wrap (((q + 1 : Nat) : Int) - 1) = (q : Int) := by rw [w64 (by omega) (by omega)]; omega
      rw [if_pos (by omega), hw, byt_at hc, blank_eq, ob1_some, grd_t (by omega), grd_t (by omega)]
      have ht : ((bl s).drop f).take (q + 1 - f) = ((bl s).drop f).take (q - f) ++ [c] := by
        rw [show q + 1 - f = (q - f) + 1 by omega, List.take_add_one]
        congr 1
        rw [List.getElem?_drop, show f + (q - f) = q by omega, hc]
        rfl
      rw [ht, rdr_snoc]
      cases hb : blk c with
      | true =>
        obtain ⟨t, h4, h5⟩ := trimL2_eq s hs f k q (by omega) (by omega) (by omega)
        exact ⟨t, h4, by rw [h5]; rfl⟩
      | false => exact ⟨_, rfl, by rw [bl_extract, ht]; rfl⟩
    · obtain rfl : f = m := by omega
      exact ⟨_, by rw [if_neg (by omega)], by rw [bl_extract]; simp [rdr]⟩
theorem rtrim_eq (s : ByteArray) {g : Nat} (hg : s.size < g) (hs : s.size < 9223372036854775807) : M_r13_trim g s = some (trimF s) := by
  obtain ⟨m, h1, _, h3, h4⟩ := trimL1_eq s hs g 0 (Nat.zero_le _) (by omega)
  obtain ⟨t, h5, h6⟩ := trimL2_eq s hs m g s.size h3 (Nat.le_refl _) (by omega)
  rw [M_r13_trim, show (0 : Int) = ((0 : Nat) : Int) from rfl, h1, ob1_some, h5]
  congr 1
  apply bl_inj
  rw [h6, trimF, bl_ofB, h4, List.drop_zero, List.take_of_length_le]
  have := congrArg List.length h4
  rw [List.length_drop, List.drop_zero, bl_len] at this
  omega
end Go.Proofs.YtljekaadbabhkaaDoor.Am
/- Plain laws of chapter 13: words, times, a step. -/
namespace Go.Proofs.YtljekaadbabhkaaDoor.Am
open Go.RowKit

theorem lowS_size (s : ByteArray) : (lowS s).size = s.size := by
  show ((s.data.toList.map lowB).toArray).size = s.size
  simp
theorem fld_len : ∀ (l cur : List UInt8), ∀ w ∈ fld cur l, w.length ≤ cur.length + l.length
  | [], cur, w, h => by
    rw [fld] at h
    split at h
    · cases h
    · simp at h; subst h; omega
  | c :: r, cur, w, h => by
    rw [fld] at h
    split at h
    · split at h
      · have := fld_len r [] w h; simp at this ⊢; omega
      · rcases List.mem_cons.1 h with rfl | h
        · simp
        · have := fld_len r [] w h; simp at this ⊢; omega
    · have := fld_len r (cur ++ [c]) w h; simp at this ⊢; omega
theorem fld_count : ∀ (l cur : List UInt8), (fld cur l).length ≤ l.length + 1
  | [], cur => by rw [fld]; split <;> simp
  | c :: r, cur => by
    rw [fld]
    split
    · split
      · have := fld_count r []; simp; omega
      · have := fld_count r []; simp; omega
    · have := fld_count r (cur ++ [c]); simp; omega
def bad (c : UInt8) : Bool := (decide (cz c < 32) && cz c != 9) || cz c == 127 || cz c == 40 || cz c == 41
def wordsI (s : ByteArray) : Option (List ByteArray) := if (bl s).any bad then none else some ((fld [] (bl s)).map ofB)
def paren (s : ByteArray) : Bool := decide (2 ≤ s.size) && ((bl s)[0]? == some 40 && (bl s)[s.size - 1]? == some 41)
def inner (s : ByteArray) : ByteArray := s.extract 1 (s.size - 1)
def wordsP (s : ByteArray) : Option (List ByteArray) := if paren s then wordsI (inner s) else none
theorem inner_size (s : ByteArray) : (inner s).size = s.size - 2 ∨ (inner s).size ≤ s.size := by
  right
  rw [inner, ByteArray.size_extract]
  omega
theorem words_len {s : ByteArray} {l : List ByteArray} (h : wordsP s = some l) : ∀ w ∈ l, w.size ≤ s.size := by
  unfold wordsP wordsI at h
  split at h
  · split at h
    · cases h
    · cases h
      intro w hw
      obtain ⟨x, hx, rfl⟩ := List.mem_map.1 hw
      have := fld_len _ _ x hx
      rw [← bl_len, bl_ofB]
      rw [bl_len] at this
      have h2 := inner_size s
      simp at this
      omega
  · cases h
theorem words_count {s : ByteArray} {l : List ByteArray} (h : wordsP s = some l) : l.length ≤ s.size + 1 := by
  unfold wordsP wordsI at h
  split at h
  · split at h
    · cases h
    · cases h
      have := fld_count (bl (inner s)) []
      have h2 := inner_size s
      rw [bl_len] at this
      rw [List.length_map]
      omega
  · cases h
theorem cz_eq (c : UInt8) (n : Nat) (hn : n < 256) : (cz c == (n : Int)) = (c == UInt8.ofNat n) := by
  by_cases e : c = UInt8.ofNat n
  · subst e
    have : cz (UInt8.ofNat n) = (n : Int) := by simp [cz]; omega
    simp [this]
  · have h1 : cz c ≠ (n : Int) := fun e2 => e (by
      apply UInt8.toNat_inj.1
      have h3 : c.toNat = n := by simp only [cz] at e2; exact_mod_cast e2
      rw [h3]; simp; omega)
    rw [beq_eq_false_iff_ne.2 h1, beq_eq_false_iff_ne.2 e]
theorem bys_at {s : ByteArray} {n : Nat} {c : UInt8} (h : (bl s)[n]? = some c) : (bys s)[n]? = some (cz c) := by
  rw [bys_bl, List.getElem?_map, h]
  rfl
theorem bys_len (s : ByteArray) : ((bys s).map c_u8).length = s.size := by rw [List.length_map, bys_bl, List.length_map, bl_len]
theorem sp_cz (c : UInt8) : sp c = (cz c == 32 || cz c == 9) := by
  rw [show (32 : Int) = ((32 : Nat) : Int) from rfl, show (9 : Int) = ((9 : Nat) : Int) from rfl, cz_eq c 32 (by decide), cz_eq c 9 (by decide)]
  rfl
theorem bne_not {z w : Int} : (z != w) = !(z == w) := rfl
theorem wordsL_eq (a0 : ByteArray) (hs : a0.size ≤ 100000) (he : a0.extract 1 ((IntKind.i64.wrap ((a0.size : Int) - 1)).toNat) = inner a0) : ∀ (k n : Nat), n ≤ (inner a0).size → (inner a0).size < k + n →
    M_planfile_words_L1 a0 k (n : Int) = some (if ((bl (inner a0)).drop n).any bad then .inr ([], false) else .inl ())
  | 0, n, h1, h2 => by omega
  | k + 1, n, h1, h2 => by
    have hi := inner_size a0
    rw [M_planfile_words_L1, he, sel_dec, bys_len]
    by_cases hn : n < (inner a0).size
    · obtain ⟨c, hc, hd⟩ := drop_at (l := bl (inner a0)) (n := n) (by rw [bl_len]; exact hn)
      rw [if_pos (by omega), ix_at (bys_at hc), w64s (by omega), wordsL_eq a0 hs he k (n + 1) hn (by omega), hd, List.any_cons, bad, sel_dec]
      obtain ⟨z, hz⟩ : ∃ z, z = cz c := ⟨_, rfl⟩
      rw [← hz, bne_not]
      cases q1 : z == 40 <;> cases q2 : z == 41 <;> cases q3 : z == 127 <;> cases q4 : z == 9 <;> by_cases q5 : z < 32 <;> simp [sel, q5]
    · obtain rfl : n = (inner a0).size := by omega
      rw [if_neg (by omega), List.drop_eq_nil_of_le (by rw [bl_len]; exact Nat.le_refl _)]
      rfl
theorem byt_is {s : ByteArray} {n : Nat} (h : n < s.size) (m : Nat) (hm : m < 256) : (byt s (n : Int) == (m : Int)) = ((bl s)[n]? == some (UInt8.ofNat m)) := by
  have hl : n < (bl s).length := by rw [bl_len]; exact h
  rw [byt_at (List.getElem?_eq_getElem hl), cz_eq _ _ hm, List.getElem?_eq_getElem hl]
  rfl
theorem words_eq (s : ByteArray) (hs : s.size ≤ 100000) : M_planfile_words s = some (match wordsP s with | none => ([], false) | some l => (l, decide (0 < l.length))) := by
  rw [M_planfile_words]
  by_cases h2 : s.size < 2
  · have hp : paren s = false := by simp [paren]; omega
    rw [wordsP, hp]
    rw [sel_dec, if_pos (by omega)]
    rfl
  · have hw : IntKind.i64.wrap ((s.size : Int) - 1) = ((s.size - 1 : Nat) : Int) := by rw [w64 (by omega) (by omega)]; omega
    have e0 : (byt s 0 != 40) = !((bl s)[0]? == some 40) := by
      rw [bne_not]
      exact congrArg _ (byt_is (n := 0) (by omega) 40 (by decide))
    have e1 : (byt s ((s.size - 1 : Nat) : Int) != 41) = !((bl s)[s.size - 1]? == some 41) := by
      rw [bne_not]
      exact congrArg _ (byt_is (n := s.size - 1) (by omega) 41 (by decide))
    have he : s.extract 1 ((IntKind.i64.wrap ((s.size : Int) - 1)).toNat) = inner s := by rw [hw]; rfl
    have hL := wordsL_eq s hs he ((inner s).size + 1) 0 (Nat.zero_le _) (by omega)
    have hi := inner_size s
    rw [he, hw, e0, e1, sel_dec, if_neg (by omega), sel_not, sel_not, Int.toNat_natCast, bys_len, Int.toNat_natCast, show (0 : Int) = ((0 : Nat) : Int) from rfl, hL, List.drop_zero]
    have hp2 : decide (2 ≤ s.size) = true := by simp; omega
    rw [wordsP, paren, hp2, Bool.true_and]
    cases (bl s)[0]? == some (40 : UInt8) with
    | false =>
      rw [sel_ff, grd_t (by omega)]
      rfl
    | true =>
      rw [sel_tt, grd_t (by omega), grd_t (by omega), grd_t (by omega)]
      cases (bl s)[s.size - 1]? == some (41 : UInt8) with
      | false => rfl
      | true =>
        rw [sel_tt, ob1_some, osum_inl, grd_t (by omega), grd_t (by omega), grd_t (by omega), grd_t (by omega)]
        rw [if_pos (show (true && true) = true from rfl), wordsI]
        cases (bl (inner s)).any bad with
        | true => rfl
        | false =>
          rw [if_neg (show ¬ (false = true) by decide), if_neg (show ¬ (false = true) by decide), ob1_some, osum_inl, M_FieldsFunc, grd_t (by omega), ob1_some, fields_eq]
          simp
theorem rwordsL_eq (a : ByteArray) (hs : a.size ≤ 100000) : ∀ (k f n : Nat) (out : List ByteArray), f ≤ n → n ≤ a.size → a.size + 1 < k + n → out.length ≤ n →
    M_r13_words_L1 a k (f : Int) (n : Int) out = some (if ((bl a).drop n).any bad then ([], false) else (out ++ (fld (((bl a).drop f).take (n - f)) ((bl a).drop n)).map ofB, true))
  | 0, f, n, out, h0, h1, h2, h3 => by omega
  | k + 1, f, n, out, h0, h1, h2, h3 => by
    rw [M_r13_words_L1, sel_dec, if_pos (by omega)]
    have app : ∀ (K : List ByteArray → Option (List ByteArray × Bool)), grd (0 ≤ (f : Int)) (grd (0 ≤ (n : Int)) (grd ((f : Int).toNat ≤ (n : Int).toNat) (grd ((n : Int).toNat ≤ a.size) (grd ((out.length + 1) * 16 ≤ 140737488355328) (K (out ++ [(a.extract (f : Int).toNat (n : Int).toNat)])))))) = K (out ++ [ofB (((bl a).drop f).take (n - f))]) := by
      intro K
      rw [grd_t (by omega), grd_t (by omega), grd_t (by omega), grd_t (by omega), grd_t (by omega)]
      congr 3
      apply bl_inj
      rw [bl_extract, bl_ofB]
      rfl
    have plen : (((bl a).drop f).take (n - f)).length = n - f := by rw [List.length_take, List.length_drop, bl_len]; omega
    have pnil : ((bl a).drop f).take (n - f) = [] ↔ ¬ f < n := by
      rw [← List.length_eq_zero_iff, plen]
      omega
    rw [w64s (by omega)]
    by_cases hn : n < a.size
    · obtain ⟨c, hc, hd⟩ := drop_at (l := bl a) (n := n) (by rw [bl_len]; exact hn)
      rw [byt_at hc]
      obtain ⟨z, hz⟩ : ∃ z, z = cz c := ⟨_, rfl⟩
      have hsp := sp_cz c
      rw [← hz] at hsp ⊢
      have hb : bad c = ((decide (z < 32) && z != 9) || z == 127 || z == 40 || z == 41) := by rw [bad, ← hz]
      have g0 : ∀ {α : Type} (x : Option α), grd (0 ≤ (n : Int)) (grd ((n : Int) < (a.size : Int)) x) = x := fun x => by rw [grd_t (by omega), grd_t (by omega)]
      simp only [g0]
      rw [sel_dec, if_pos (by omega)]
      have e36 : (sel (z != 32) (some (z != 9)) (some false) : Option Bool) = some (!(sp c)) := by
        rw [hsp, bne_not, bne_not]
        cases z == 32 <;> cases z == 9 <;> rfl
      rw [e36, ob1_some, sel_not, hd, List.any_cons, fld]
      cases h : sp c with
      | true =>
        have hbf : bad c = false := by
          rw [hb]
          rw [hsp, Bool.or_eq_true, beq_iff_eq, beq_iff_eq] at h
          rcases h with rfl | rfl <;> rfl
        rw [sel_tt, ob1_some, osum_inl, hbf, Bool.false_or, if_pos rfl, sel_dec]
        by_cases hf : f < n
        · rw [if_pos (by omega), app (fun o => M_r13_words_L1 a k ((n + 1 : Nat) : Int) ((n + 1 : Nat) : Int) o), rwordsL_eq a hs k (n + 1) (n + 1) _ (Nat.le_refl _) hn (by omega) (by simp; omega), if_neg (fun e => pnil.1 e hf)]
          simp
        · rw [if_neg (by omega), rwordsL_eq a hs k (n + 1) (n + 1) _ (Nat.le_refl _) hn (by omega) (by omega), if_pos (pnil.2 hf)]
          simp
      | false =>
        rw [sel_ff, if_neg (show ¬ (false = true) by decide)]
        have hsf := h
        rw [hsp, Bool.or_eq_false_iff] at hsf
        have h9 : (z != 9) = true := by rw [bne_not, hsf.2]; rfl
        have ext : ((bl a).drop f).take (n - f) ++ [c] = ((bl a).drop f).take (n + 1 - f) := by
          rw [show n + 1 - f = (n - f) + 1 by omega, List.take_add_one]
          congr 1
          rw [List.getElem?_drop, show f + (n - f) = n by omega, hc]
          rfl
        rw [hb, h9, ext, sel_dec]
        have ih := rwordsL_eq a hs k f (n + 1) out (by omega) hn (by omega) (by omega)
        obtain ⟨R, hR⟩ : ∃ R, M_r13_words_L1 a k (f : Int) ((n + 1 : Nat) : Int) out = R := ⟨_, rfl⟩
        rw [hR] at ih ⊢
        rw [ih]
        cases q1 : z == 40 <;> cases q2 : z == 41 <;> cases q3 : z == 127 <;> by_cases q5 : z < 32 <;> simp [sel, ob1, osum, q5]
    · obtain rfl : n = a.size := by omega
      rw [sel_dec, if_neg (by omega), ob1_some, sel_ff, ob1_some, osum_inl, List.drop_eq_nil_of_le (by rw [bl_len]; exact Nat.le_refl _), fld, sel_dec]
      have last : ∀ (k : Nat) (o : List ByteArray) (f : Int), 0 < k → M_r13_words_L1 a k f ((a.size + 1 : Nat) : Int) o = some (o, true) := by
        intro k o f hk
        obtain ⟨j, rfl⟩ : ∃ j, k = j + 1 := ⟨k - 1, by omega⟩
        rw [M_r13_words_L1, sel_dec, if_neg (by omega)]
      by_cases hf : f < a.size
      · rw [if_pos (by omega), app (fun o => M_r13_words_L1 a k ((a.size + 1 : Nat) : Int) ((a.size + 1 : Nat) : Int) o), last k _ _ (by omega), if_neg (fun e => pnil.1 e hf)]
        simp
      · rw [if_neg (by omega), last k _ _ (by omega), if_pos (pnil.2 hf)]
        simp
theorem rwords_eq (s : ByteArray) {g : Nat} (hg : s.size + 1 < g) (hs : s.size ≤ 100000) : M_r13_words g s = some (match wordsI s with | none => ([], false) | some l => (l, true)) := by
  have h := rwordsL_eq s hs g 0 0 [] (Nat.le_refl _) (Nat.zero_le _) (by omega) (Nat.zero_le _)
  rw [M_r13_words, show (0 : Int) = ((0 : Nat) : Int) from rfl, h, wordsI]
  simp only [List.drop_zero, Nat.sub_zero, List.take_zero, List.nil_append]
  cases (bl s).any bad <;> rfl
end Go.Proofs.YtljekaadbabhkaaDoor.Am
/- Plain laws of chapter 13: the time of a step, a step, the lines, Parse; PlanfileParses is true. -/
namespace Go.Proofs.YtljekaadbabhkaaDoor.Am
open Go.RowKit

def isDig (c : UInt8) : Bool := decide (48 ≤ c.toNat) && decide (c.toNat ≤ 57)
/-- the value of digits, after a number -/
def numL : Int → List UInt8 → Option Int
  | n, [] => some n
  | n, c :: r => if isDig c then numL (10 * n + ((c.toNat : Int) - 48)) r else none
def timeF (s : ByteArray) : Option Int := if 1 ≤ s.size ∧ s.size ≤ 9 then numL 0 (bl s) else none
theorem pow10_le {i : Nat} (h : i ≤ 9) : (10 : Int) ^ i ≤ 1000000000 := by
  have h1 : (10 : Nat) ^ i ≤ 10 ^ 9 := Nat.pow_le_pow_right (by omega) h
  have h2 : ((10 ^ i : Nat) : Int) ≤ ((10 ^ 9 : Nat) : Int) := by exact_mod_cast h1
  simpa using h2
theorem wrap_dig {n c : Int} (h0 : 0 ≤ n) (h1 : n < 10000000000000) (h2 : 48 ≤ c) (h3 : c ≤ 57) : IntKind.i64.wrap (IntKind.i64.wrap (10 * n) + IntKind.i64.wrap (IntKind.u8.wrap (c - 48))) = 10 * n + (c - 48) := by
  have e : IntKind.u8.wrap (c - 48) = c - 48 := by rw [IntKind.wrap_u8]; omega
  rw [e, w64 (z := 10 * n) (by omega) (by omega), w64 (z := c - 48) (by omega) (by omega), w64 (by omega) (by omega)]
theorem clockL_eq (s : ByteArray) (hs : s.size ≤ 9) : ∀ (k n : Nat) (v : Int), n ≤ s.size → s.size < k + n → 0 ≤ v → v < 10 ^ n →
    M_planfile_clock_L1 s k v (n : Int) = some (match numL v ((bl s).drop n) with | some m => .inl m | none => .inr (0, ⟨#[]⟩, false))
  | 0, n, v, h1, h2, _, _ => by omega
  | k + 1, n, v, h1, h2, h3, h4 => by
    rw [M_planfile_clock_L1, sel_dec, bys_len]
    by_cases hn : n < s.size
    · obtain ⟨c, hc, hd⟩ := drop_at (l := bl s) (n := n) (by rw [bl_len]; exact hn)
      have hp := pow10_le (i := n) (by omega)
      rw [if_pos (by omega), ix_at (bys_at hc), hd, numL, sel_dec, sel_dec]
      have hz : cz c = (c.toNat : Int) := rfl
      by_cases hdig : isDig c = true
      · simp [isDig] at hdig
        rw [if_neg (by omega), if_neg (by omega), if_pos (by simp [isDig]; omega), wrap_dig h3 (by omega) (by omega) (by omega), w64s (by omega)]
        exact clockL_eq s hs k (n + 1) _ hn (by omega) (by omega) (by rw [Int.pow_succ]; omega)
      · rw [if_neg hdig]
        simp [isDig] at hdig
        by_cases hlt : cz c < 48
        · rw [if_pos hlt]
        · rw [if_neg hlt, if_pos (by omega)]
    · obtain rfl : n = s.size := by omega
      rw [if_neg (by omega), List.drop_eq_nil_of_le (by rw [bl_len]; exact Nat.le_refl _)]
      rfl
/-- the first colon -/
def colon (s : ByteArray) : Option (ByteArray × ByteArray) := if (58 : UInt8) ∈ bl s then some (ofB ((bl s).takeWhile (· != 58)), ofB (((bl s).dropWhile (· != 58)).drop 1)) else none
theorem colon_app {s : ByteArray} {a r : List UInt8} (h : bl s = a ++ 58 :: r) (ha : (58 : UInt8) ∉ a) : colon s = some (ofB a, ofB r) := by
  have hp : ∀ x ∈ a, (x != 58) = true := fun x hx => by
    rw [bne_iff_ne]
    rintro rfl
    exact ha hx
  rw [colon, if_pos (by rw [h]; simp), h]
  simp only [Option.some.injEq, Prod.mk.injEq]
  constructor
  · congr 1
    clear h
    induction a with
    | nil => rfl
    | cons x a ih => rw [List.cons_append, List.takeWhile_cons, if_pos (hp x (by simp)), ih (fun e => ha (by simp [e])) (fun y hy => hp y (by simp [hy]))]
  · congr 1
    clear h
    induction a with
    | nil => rfl
    | cons x a ih => rw [List.cons_append, List.dropWhile_cons, if_pos (hp x (by simp)), ih (fun e => ha (by simp [e])) (fun y hy => hp y (by simp [hy]))]
theorem colon_cases (s : ByteArray) : ((58 : UInt8) ∉ bl s ∧ colon s = none) ∨ ∃ a r, bl s = a ++ 58 :: r ∧ (58 : UInt8) ∉ a ∧ colon s = some (ofB a, ofB r) := by
  by_cases h : (58 : UInt8) ∈ bl s
  · obtain ⟨a, r, e, ha⟩ := List.append_of_mem h |> fun ⟨a, r, e⟩ => (List.eq_append_cons_of_mem h)
    exact .inr ⟨a, r, e, ha, colon_app e ha⟩
  · exact .inl ⟨h, by rw [colon, if_neg h]⟩
def clockF (s : ByteArray) : Option (Int × ByteArray) :=
  match colon s with
  | none => none
  | some (a, r) => match timeF (trimF a) with
    | none => none
    | some n => some (n, trimF r)
theorem rdr_len (l : List UInt8) : (rdr l).length ≤ l.length := by
  induction l with
  | nil => simp [rdr]
  | cons c r ih =>
    rw [rdr]
    split
    · simp
    · simp; omega
theorem trim_len (s : ByteArray) : (trimF s).size ≤ s.size := by
  rw [← bl_len, trimF, bl_ofB, ← bl_len]
  have h1 := rdr_len ((bl s).dropWhile blk)
  have h2 := (List.dropWhile_sublist blk (l := bl s)).length_le
  omega
theorem colon_len {s a r : ByteArray} (h : colon s = some (a, r)) : a.size + r.size < s.size := by
  rcases colon_cases s with ⟨_, h2⟩ | ⟨x, y, h1, h2, h3⟩
  · rw [h2] at h; cases h
  · rw [h3] at h
    cases h
    have := congrArg List.length h1
    rw [bl_len] at this
    rw [← bl_len, bl_ofB, ← bl_len (ofB y), bl_ofB]
    simp at this
    omega
theorem clock_len {s r : ByteArray} {n : Int} (h : clockF s = some (n, r)) : r.size ≤ s.size := by
  unfold clockF at h
  split at h
  · cases h
  · rename_i a r' hc
    split at h
    · cases h
    · cases h
      have h1 := colon_len hc
      have h2 := trim_len r'
      omega
theorem clock_eq (s : ByteArray) (hs : s.size ≤ 100000) : M_planfile_clock s = some (match clockF s with | none => (0, ⟨#[]⟩, false) | some (n, r) => (n, r, true)) := by
  rw [M_planfile_clock, M_strings_Cut, grd_t (by omega), cutB]
  show ob3 (some ((⟨(Lib.cut (bl s) [58]).1.toArray⟩ : ByteArray), (⟨(Lib.cut (bl s) [58]).2.1.toArray⟩ : ByteArray), (Lib.cut (bl s) [58]).2.2)) _ = _
  rw [ob3_some]
  rcases colon_cases s with ⟨h1, h2⟩ | ⟨a, r, h1, h2, h3⟩
  · rw [cut_none h1, clockF, h2]
    simp only
    rw [trim_eq _ (by show (ofB (bl s)).size ≤ _; rw [← bl_len, bl_ofB, bl_len]; omega), ob1_some]
    rfl
  · have hl := congrArg List.length h1
    rw [bl_len] at hl
    simp at hl
    rw [h1, cut_app h2, clockF, h3]
    simp only
    have ha : (ofB a).size ≤ s.size := by rw [← bl_len, bl_ofB]; omega
    have hr : (ofB r).size ≤ s.size := by rw [← bl_len, bl_ofB]; omega
    have ht := trim_len (ofB a)
    rw [show (⟨a.toArray⟩ : ByteArray) = ofB a from rfl, show (⟨r.toArray⟩ : ByteArray) = ofB r from rfl, trim_eq _ (by omega), trim_eq _ (by omega), ob1_some, timeF]
    obtain ⟨t, he⟩ : ∃ t, trimF (ofB a) = t := ⟨_, rfl⟩
    rw [he] at ht ⊢
    simp only [sel_dec]
    by_cases h1 : t.size < 1
    · rw [if_pos (show ((t.size : Int) < 1) by omega), if_neg (show ¬ (1 ≤ t.size ∧ t.size ≤ 9) by omega)]
      rfl
    · by_cases h9 : t.size > 9
      · rw [if_neg (show ¬ ((t.size : Int) < 1) by omega), if_pos (show ((t.size : Int) > 9) by omega), if_neg (show ¬ (1 ≤ t.size ∧ t.size ≤ 9) by omega)]
        rfl
      · rw [if_neg (show ¬ ((t.size : Int) < 1) by omega), if_neg (show ¬ ((t.size : Int) > 9) by omega), if_pos (show (1 ≤ t.size ∧ t.size ≤ 9) by omega)]
        show ob1 (some (Sum.inl ())) _ = _
        rw [ob1_some, osum_inl, grd_t (by omega), bys_len, Int.toNat_natCast, show (0 : Int) = ((0 : Nat) : Int) from rfl, clockL_eq t (by omega) (t.size + 1) 0 _ (Nat.zero_le _) (by omega) (by simp) (by simp), List.drop_zero]
        cases numL ((0 : Nat) : Int) (bl t) with
        | none => rfl
        | some m => rfl
theorem timeL_eq (s : ByteArray) (hs : s.size < 9223372036854775807) : ∀ (k n : Nat) (v : Int), n ≤ s.size → n ≤ 9 → s.size < k + n → 0 ≤ v → v < 10 ^ n →
    ∃ x, M_r13_time_L1 s k v (n : Int) = some x ∧ (if s.size ≤ 9 then (match numL v ((bl s).drop n) with | some m => x = (m, !(s.toList == (⟨#[]⟩ : ByteArray).toList)) | none => x.2 = false) else x.2 = false)
  | 0, n, v, h1, _, h2, _, _ => by omega
  | k + 1, n, v, h1, h9, h2, h3, h4 => by
    rw [M_r13_time_L1, sel_dec]
    by_cases hn : n < s.size
    · obtain ⟨c, hc, hd⟩ := drop_at (l := bl s) (n := n) (by rw [bl_len]; exact hn)
      have hp := pow10_le (i := n) (by omega)
      have g0 : ∀ {α : Type} (x : Option α), grd (0 ≤ (n : Int)) (grd ((n : Int) < (s.size : Int)) x) = x := fun x => by rw [grd_t (by omega), grd_t (by omega)]
      simp only [g0]
      rw [if_pos (by omega), byt_at hc, hd, numL, sel_dec, sel_dec]
      have hz : cz c = (c.toNat : Int) := rfl
      by_cases hdig : isDig c = true
      · simp [isDig] at hdig
        rw [if_neg (by omega), if_neg (by omega), if_pos (show isDig c = true by simp [isDig]; omega), wrap_dig h3 (by omega) (by omega) (by omega), w64s (by omega)]
        by_cases e9 : n = 9
        · subst e9
          exact ⟨(0, false), rfl, by rw [if_neg (by omega)]⟩
        · have : ((n : Int) == 9) = false := by rw [beq_eq_false_iff_ne]; omega
          rw [this, sel_ff]
          exact timeL_eq s hs k (n + 1) _ hn (by omega) (by omega) (by omega) (by rw [Int.pow_succ]; omega)
      · rw [if_neg hdig]
        simp [isDig] at hdig
        refine ⟨(0, false), ?_, by simp⟩
        by_cases hlt : cz c < 48
        · rw [if_pos hlt]
        · rw [if_neg hlt, if_pos (by omega)]
    · obtain rfl : n = s.size := by omega
      exact ⟨_, by rw [if_neg (by omega)], by rw [if_pos h9, List.drop_eq_nil_of_le (by rw [bl_len]; exact Nat.le_refl _)]; rfl⟩
theorem ne_empty (s : ByteArray) : (!(s.toList == (⟨#[]⟩ : ByteArray).toList)) = decide (1 ≤ s.size) := by
  rw [beq_bl]
  by_cases h : s = ⟨#[]⟩
  · subst h; rfl
  · have h1 : s.size ≠ 0 := fun e => h (bl_inj (List.eq_nil_of_length_eq_zero (by rw [bl_len]; exact e)))
    rw [decide_eq_false h, decide_eq_true (by omega)]
    rfl
theorem time_eq (s : ByteArray) (hs : s.size < 9223372036854775807) : ∃ x : Int × Bool, M_r13_time s = some x ∧ (match timeF s with | some m => x = (m, true) | none => x.2 = false) := by
  obtain ⟨x, h1, h2⟩ := timeL_eq s hs (s.size + 1) 0 0 (Nat.zero_le _) (by omega) (by omega) (by simp) (by simp)
  refine ⟨x, h1, ?_⟩
  rw [timeF]
  rw [ne_empty, List.drop_zero] at h2
  by_cases h9 : s.size ≤ 9
  · rw [if_pos h9] at h2
    by_cases h0 : 1 ≤ s.size
    · rw [if_pos ⟨h0, h9⟩]
      rw [decide_eq_true h0] at h2
      exact h2
    · rw [if_neg (fun e => h0 e.1)]
      rw [decide_eq_false h0] at h2
      cases hm : numL 0 (bl s) with
      | some m => rw [hm] at h2; rw [h2]
      | none => rw [hm] at h2; exact h2
  · rw [if_neg (fun e => h9 e.2)]
    rw [if_neg h9] at h2
    exact h2
theorem rcolon_none (s : ByteArray) (hs : s.size < 9223372036854775807) (v : Int) : ∀ (k n : Nat), n ≤ s.size → n < k → (58 : UInt8) ∉ (bl s).take n → M_r13_step_L1 s k v ((n : Int) - 1) = some v
  | 0, n, h1, h2, _ => by omega
  | k + 1, 0, h1, h2, _ => by rw [M_r13_step_L1, sel_dec, if_neg (by omega)]
  | k + 1, n + 1, h1, h2, h3 => by
    obtain ⟨c, hc, hd⟩ := drop_at (l := bl s) (n := n) (by rw [bl_len]; omega)
    have ht : (bl s).take (n + 1) = (bl s).take n ++ [c] := by rw [List.take_add_one, hc]; rfl
    rw [ht] at h3
    have hne : c ≠ 58 := fun e => h3 (by simp [e])
    rw [M_r13_step_L1, sel_dec, if_pos (by omega), grd_t (by omega), grd_t (by omega), show (((n + 1 : Nat) : Int) - 1) = (n : Int) by omega, byt_at hc]
    have : (cz c == 58) = false := by
      rw [show (58 : Int) = ((58 : Nat) : Int) from rfl, cz_eq c 58 (by decide)]
      exact beq_eq_false_iff_ne.2 hne
    rw [this, sel_ff, w64 (by omega) (by omega)]
    exact rcolon_none s hs v k n (by omega) (by omega) (fun e => h3 (by simp [e]))
theorem rcolon_some (s : ByteArray) (hs : s.size < 9223372036854775807) (j : Nat) (hj : (bl s)[j]? = some 58) (hf : (58 : UInt8) ∉ (bl s).take j) : ∀ (k n : Nat) (v : Int), n ≤ s.size → n < k → j < n → M_r13_step_L1 s k v ((n : Int) - 1) = some (j : Int)
  | 0, n, v, h1, h2, _ => by omega
  | k + 1, 0, v, h1, h2, h3 => by omega
  | k + 1, n + 1, v, h1, h2, h3 => by
    obtain ⟨c, hc, hd⟩ := drop_at (l := bl s) (n := n) (by rw [bl_len]; omega)
    rw [M_r13_step_L1, sel_dec, if_pos (by omega), grd_t (by omega), grd_t (by omega), show (((n + 1 : Nat) : Int) - 1) = (n : Int) by omega, byt_at hc, w64 (by omega) (by omega)]
    by_cases e : j = n
    · subst e
      rw [hj] at hc
      cases hc
      show M_r13_step_L1 s k _ _ = _
      exact rcolon_none s hs _ k j (by omega) (by omega) hf
    · have h4 := fun v => rcolon_some s hs j hj hf k n v (by omega) (by omega) (by omega)
      cases (cz c == 58) with
      | true => exact h4 _
      | false => exact h4 _

def step0 : GStep := { At := 0, Name := ⟨#[]⟩, Args := [] }
/-- the step of a line, and the error's number -/
def stepF (line : ByteArray) (timed : Bool) : GStep × Int :=
  match (if timed then clockF line else some (0, line)) with
  | none => (step0, 2)
  | some (t, l) => match wordsP l with
    | none => (step0, 2)
    | some [] => (step0, 2)
    | some (w :: ws) => if t > 1048576 then (step0, 1) else if ((w :: ws).map lowS).all nameF then ({ At := t, Name := lowS w, Args := ws.map lowS }, 0) else (step0, 8)
theorem low_set (L : List ByteArray) (n : Nat) (c : ByteArray) (h : L[n]? = some c) : ((L.take n).map lowS ++ L.drop n).set n (lowS c) = (L.take (n + 1)).map lowS ++ L.drop (n + 1) := by
  obtain ⟨hk, rfl⟩ := List.getElem?_eq_some_iff.1 h
  rw [List.set_append_right _ _ (by simp; omega)]
  rw [List.length_map, List.length_take, Nat.min_eq_left (by omega), Nat.sub_self, List.drop_eq_getElem_cons hk, List.set_cons_zero, List.take_succ_eq_append_getElem hk]
  simp only [List.map_append, List.map_cons, List.map_nil, List.append_assoc, List.cons_append, List.nil_append]
theorem low_get (L : List ByteArray) (n : Nat) (h : n < L.length) : ((L.take n).map lowS ++ L.drop n)[n]? = L[n]? := by
  rw [List.getElem?_append_right (by simp; omega)]
  simp only [List.length_map, List.length_take, Nat.min_eq_left (Nat.le_of_lt h), Nat.sub_self, List.getElem?_drop, Nat.add_zero]
theorem low_ln (L : List ByteArray) (n : Nat) : ((L.take n).map lowS ++ L.drop n).length = L.length := by
  simp
  omega
theorem stepL_eq (L : List ByteArray) (hL : L.length ≤ 200000) (hw : ∀ w ∈ L, w.size ≤ 200000) : ∀ (k n : Nat), n ≤ L.length → L.length < k + n →
    M_planfile_step_L1 L k (n : Int) ((L.take n).map lowS ++ L.drop n) = some (if ((L.drop n).map lowS).all nameF then .inl (L.map lowS) else .inr (step0, Er.no 8))
  | 0, n, h1, h2 => by omega
  | k + 1, n, h1, h2 => by
    rw [M_planfile_step_L1, sel_dec]
    by_cases hn : n < L.length
    · obtain ⟨c, hc, hd⟩ := drop_at hn
      have hcs := hw c (List.mem_of_getElem? hc)
      have hg := low_get L n hn
      rw [hc] at hg
      have hset := low_set L n c hc
      have hg2 : ((L.take (n + 1)).map lowS ++ L.drop (n + 1))[n]? = some (lowS c) := by
        rw [← hset, List.getElem?_set_self (by rw [low_ln]; exact hn)]
      rw [if_pos (by omega), Int.toNat_natCast, ixn_at hg, M_lower, grd_t (by omega), ob1_some, ixn_at hg, grd_t (by omega), low_ln, grd_t (by omega), hset, ixn_at hg2, name_eq _ (by rw [lowS_size]; omega), ob1_some, w64s (by omega), stepL_eq L hL hw k (n + 1) hn (by omega), hd, List.map_cons, List.all_cons]
      cases nameF (lowS c) <;> rfl
    · obtain rfl : n = L.length := by omega
      rw [if_neg (by omega), List.drop_eq_nil_of_le (Nat.le_refl _), List.take_of_length_le (Nat.le_refl _)]
      simp
theorem rstepL_eq (L : List ByteArray) {g : Nat} (hL : L.length ≤ 200000) (hg : 12 ≤ g) (hw : ∀ w ∈ L, w.size < g ∧ w.size ≤ 200000) : ∀ (k n : Nat), n ≤ L.length → L.length < k + n →
    M_r13_step_L2 g L k (n : Int) ((L.take n).map lowS ++ L.drop n) = some (if ((L.drop n).map lowS).all nameF then .inl (L.map lowS) else .inr (step0, 8))
  | 0, n, h1, h2 => by omega
  | k + 1, n, h1, h2 => by
    rw [M_r13_step_L2, sel_dec]
    by_cases hn : n < L.length
    · obtain ⟨c, hc, hd⟩ := drop_at hn
      have hcs := hw c (List.mem_of_getElem? hc)
      have hg1 := low_get L n hn
      rw [hc] at hg1
      have hset := low_set L n c hc
      have hg2 : ((L.take (n + 1)).map lowS ++ L.drop (n + 1))[n]? = some (lowS c) := by
        rw [← hset, List.getElem?_set_self (by rw [low_ln]; exact hn)]
      rw [if_pos (by omega), Int.toNat_natCast, ixn_at hg1, M_lower, grd_t (by omega), ob1_some, ixn_at hg1, grd_t (by omega), low_ln, grd_t (by omega), hset, ixn_at hg2, rname_eq _ (by rw [lowS_size]; omega) hg (by rw [lowS_size]; omega), ob1_some, w64s (by omega), rstepL_eq L hL hg hw k (n + 1) hn (by omega), hd, List.map_cons, List.all_cons]
      cases nameF (lowS c) <;> rfl
    · obtain rfl : n = L.length := by omega
      rw [if_neg (by omega), List.drop_eq_nil_of_le (Nat.le_refl _), List.take_of_length_le (Nat.le_refl _)]
      simp
def erOf (z : Int) : Er := if z = 0 then .nil else .no z
end Go.Proofs.YtljekaadbabhkaaDoor.Am
/- Plain laws of chapter 13: a step, the lines, Parse; PlanfileParses is true. -/
namespace Go.Proofs.YtljekaadbabhkaaDoor.Am
open Go.RowKit

theorem step_eq (line : ByteArray) (timed : Bool) (hs : line.size ≤ 70000) : M_planfile_step line timed = some ((stepF line timed).1, erOf (stepF line timed).2) := by
  have main : ∀ (l : ByteArray) (t : Int), l.size ≤ 70000 → ob2 (M_planfile_words l) (fun z12 z13 =>
      sel (!z13)
       (some (({ At := 0, Name := (⟨#[]⟩ : ByteArray), Args := [] : GStep }), (Er.no 2)))
       (sel (decide (t > 1048576))
         (some (({ At := 0, Name := (⟨#[]⟩ : ByteArray), Args := [] : GStep }), (Er.no 1)))
         (ob1 (M_planfile_step_L1 z12 ((((z12.length : Nat) : Int)).toNat + 1) 0 z12 : Option ((List ByteArray) ⊕ (GStep × Er)))
           (osum
           (fun v34 => ixn v34 0 (fun y58 =>
              ob1 (M_strings_Clone y58) (fun z59 =>
               grd (v34.length - 1 ≤ 140737488355328) (grd (1 + (v34.length - 1) ≤ v34.length) (ob1 (M_cloneS ((v34.drop 1).take (v34.length - 1))) (fun z60 =>
                grd (0 < ((v34.length : Nat) : Int)) (grd (1 ≤ v34.length) (some (({ At := t, Name := z59, Args := z60 : GStep }), Er.nil)))))))))
           (fun (r35, r36) => some (r35, r36)))))) = some (match wordsP l with
      | none => (step0, .no 2)
      | some [] => (step0, .no 2)
      | some (w :: ws) => if t > 1048576 then (step0, .no 1) else if ((w :: ws).map lowS).all nameF then ({ At := t, Name := lowS w, Args := ws.map lowS }, .nil) else (step0, .no 8)) := by
    intro l t hl
    rw [words_eq l (by omega)]
    cases hw : wordsP l with
    | none => rfl
    | some L =>
      cases L with
      | nil => rfl
      | cons w ws =>
        have hlen := words_len hw
        have hcnt := words_count hw
        simp only
        rw [ob2_some, decide_eq_true (show 0 < (w :: ws).length by simp), sel_not, sel_tt, sel_dec]
        by_cases ht : t > 1048576
        · rw [if_pos ht, if_pos ht]
          rfl
        · have hL := stepL_eq (w :: ws) (by omega) (fun x hx => by have := hlen x hx; omega) ((w :: ws).length + 1) 0 (Nat.zero_le _) (by omega)
          rw [List.take_zero, List.map_nil, List.nil_append, List.drop_zero] at hL
          rw [if_neg ht, if_neg ht, Int.toNat_natCast, show (0 : Int) = ((0 : Nat) : Int) from rfl, hL, ob1_some]
          cases ((w :: ws).map lowS).all nameF with
          | false => rfl
          | true =>
            have hw1 := hlen w (by simp)
            simp at hcnt
            rw [if_pos rfl, if_pos rfl, osum_inl, List.map_cons]
            show ob1 (M_strings_Clone (lowS w)) _ = _
            rw [M_strings_Clone, M_stringslite_Clone, grd_t (by rw [lowS_size]; omega), ob1_some, ob1_some, grd_t (by simp <;> omega), grd_t (by simp <;> omega)]
            have he : ((lowS w :: ws.map lowS).drop 1).take ((lowS w :: ws.map lowS).length - 1) = ws.map lowS := by simp [List.take_of_length_le]
            rw [he, M_cloneS, grd_t (by simp <;> omega), ob1_some, grd_t (by simp <;> omega), grd_t (by simp)]
  have fin : ∀ (l : ByteArray) (t : Int), some (match wordsP l with
      | none => (step0, Er.no 2)
      | some [] => (step0, .no 2)
      | some (w :: ws) => if t > 1048576 then (step0, .no 1) else if ((w :: ws).map lowS).all nameF then ({ At := t, Name := lowS w, Args := ws.map lowS }, .nil) else (step0, .no 8)) = (let r : GStep × Int := (match wordsP l with
      | none => (step0, 2)
      | some [] => (step0, 2)
      | some (w :: ws) => if t > 1048576 then (step0, 1) else if ((w :: ws).map lowS).all nameF then ({ At := t, Name := lowS w, Args := ws.map lowS }, 0) else (step0, 8)); some (r.1, erOf r.2)) := by
    intro l t
    cases wordsP l with
    | none => rfl
    | some L =>
      cases L with
      | nil => rfl
      | cons w ws =>
        simp only
        split
        · rfl
        · split <;> rfl
  rw [M_planfile_step, stepF]
  cases timed with
  | false =>
    rw [sel_ff, ob1_some, osum_inl]
    refine (main line 0 hs).trans ?_
    rw [fin]
    rfl
  | true =>
    rw [sel_tt, clock_eq line (by omega)]
    cases hc : clockF line with
    | none => rfl
    | some x =>
      obtain ⟨t, l⟩ := x
      have := clock_len hc
      simp only
      rw [ob3_some, sel_not, sel_tt, ob1_some, osum_inl]
      refine (main l t (by omega)).trans ?_
      rw [fin]
      rfl
theorem rstep_eq (line : ByteArray) (timed : Bool) {g : Nat} (hg : line.size + 12 ≤ g) (hs : line.size ≤ 70000) : M_r13_step g line timed = some (stepF line timed) := by
  have main : ∀ (v17 : ByteArray) (v18 : Int), v17.size ≤ line.size → ob1 (sel (decide ((v17.size : Int) < 2))
       (some (.inr (({ At := 0, Name := (⟨#[]⟩ : ByteArray), Args := [] : GStep }), 2)))
       (sel ((byt v17 0) != 40)
         (grd (0 < (v17.size : Int)) (some (.inr (({ At := 0, Name := (⟨#[]⟩ : ByteArray), Args := [] : GStep }), 2))))
         (grd (0 < (v17.size : Int)) (grd (0 ≤ (IntKind.i64.wrap ((v17.size : Int) - 1))) (grd ((IntKind.i64.wrap ((v17.size : Int) - 1)) < (v17.size : Int)) (sel ((byt v17 (IntKind.i64.wrap ((v17.size : Int) - 1))) != 41)
           (some (.inr (({ At := 0, Name := (⟨#[]⟩ : ByteArray), Args := [] : GStep }), 2)))
           (some (.inl ()))))))) : Option (Unit ⊕ (GStep × Int)))
      (osum
      (fun _ => ob2 (M_r13_words g (v17.extract 1 ((IntKind.i64.wrap ((v17.size : Int) - 1)).toNat))) (fun z41 z42 =>
         grd (0 ≤ (IntKind.i64.wrap ((v17.size : Int) - 1))) (grd (1 ≤ (IntKind.i64.wrap ((v17.size : Int) - 1)).toNat) (grd ((IntKind.i64.wrap ((v17.size : Int) - 1)).toNat ≤ v17.size) (ob1 (sel (!z42)
           (some (.inr (({ At := 0, Name := (⟨#[]⟩ : ByteArray), Args := [] : GStep }), 2)))
           (sel (((z41.length : Nat) : Int) == 0)
             (some (.inr (({ At := 0, Name := (⟨#[]⟩ : ByteArray), Args := [] : GStep }), 2)))
             (some (.inl ()))) : Option (Unit ⊕ (GStep × Int)))
          (osum
          (fun _ => sel (decide (v18 > 1048576))
             (some (({ At := 0, Name := (⟨#[]⟩ : ByteArray), Args := [] : GStep }), 1))
             (ob1 (M_r13_step_L2 g z41 ((((z41.length : Nat) : Int)).toNat + 1) 0 z41 : Option ((List ByteArray) ⊕ (GStep × Int)))
               (osum
               (fun v66 => ixn v66 0 (fun y90 =>
                  grd (0 < ((v66.length : Nat) : Int)) (grd (1 ≤ v66.length) (grd (v66.length - 1 ≤ 140737488355328) (some (({ At := v18, Name := y90, Args := ((v66.drop 1).take (v66.length - 1)) : GStep }), 0))))))
               (fun (r67, r68) => some (r67, r68)))))
          (fun (r43, r44) => some (r43, r44))))))))
      (fun (r38, r39) => some (r38, r39))) = some (match wordsP v17 with
      | none => (step0, 2)
      | some [] => (step0, 2)
      | some (w :: ws) => if v18 > 1048576 then (step0, 1) else if ((w :: ws).map lowS).all nameF then ({ At := v18, Name := lowS w, Args := ws.map lowS }, 0) else (step0, 8)) := by
    intro s t hl
    by_cases h2 : s.size < 2
    · have hp : paren s = false := by simp [paren]; omega
      rw [wordsP, hp, sel_dec, if_pos (by omega)]
      rfl
    · have hw : IntKind.i64.wrap ((s.size : Int) - 1) = ((s.size - 1 : Nat) : Int) := by rw [w64 (by omega) (by omega)]; omega
      have e0 : (byt s 0 != 40) = !((bl s)[0]? == some 40) := by
        rw [bne_not]
        exact congrArg _ (byt_is (n := 0) (by omega) 40 (by decide))
      have e1 : (byt s ((s.size - 1 : Nat) : Int) != 41) = !((bl s)[s.size - 1]? == some 41) := by
        rw [bne_not]
        exact congrArg _ (byt_is (n := s.size - 1) (by omega) 41 (by decide))
      have he : s.extract 1 ((s.size - 1 : Nat) : Int).toNat = inner s := rfl
      have hi := inner_size s
      have hp2 : decide (2 ≤ s.size) = true := by simp; omega
      rw [hw, e0, e1, sel_dec, if_neg (by omega), sel_not, sel_not, he]
      cases hq0 : (bl s)[0]? == some (40 : UInt8) with
      | false =>
        rw [sel_ff, grd_t (by omega), wordsP, paren, hp2, hq0]
        rfl
      | true =>
        rw [sel_tt, grd_t (by omega), grd_t (by omega), grd_t (by omega)]
        cases hq1 : (bl s)[s.size - 1]? == some (41 : UInt8) with
        | false =>
          rw [wordsP, paren, hp2, hq0, hq1]
          rfl
        | true =>
          have hpar : paren s = true := by rw [paren, hp2, hq0, hq1]; rfl
          have hwp : wordsP s = wordsI (inner s) := by rw [wordsP, if_pos hpar]
          rw [sel_tt, ob1_some, osum_inl, rwords_eq (inner s) (by omega) (by omega), hwp]
          cases hwi : wordsI (inner s) with
          | none =>
            simp only
            rw [ob2_some, grd_t (by omega), grd_t (by omega), grd_t (by omega)]
            rfl
          | some L =>
            rw [← hwp] at hwi
            have hlen := words_len hwi
            have hcnt := words_count hwi
            simp only
            rw [ob2_some, grd_t (by omega), grd_t (by omega), grd_t (by omega)]
            cases L with
            | nil => rfl
            | cons w ws =>
              have hne : ((((w :: ws).length : Nat) : Int) == 0) = false := by rw [beq_eq_false_iff_ne]; simp; omega
              rw [sel_not, sel_tt, hne, sel_ff, ob1_some, osum_inl, sel_dec]
              simp only
              by_cases ht : t > 1048576
              · rw [if_pos ht, if_pos ht]
                rfl
              · have hL := rstepL_eq (w :: ws) (g := g) (by omega) (by omega) (fun x hx => by have := hlen x hx; omega) ((w :: ws).length + 1) 0 (Nat.zero_le _) (by omega)
                rw [List.take_zero, List.map_nil, List.nil_append, List.drop_zero] at hL
                rw [if_neg ht, if_neg ht, Int.toNat_natCast, show (0 : Int) = ((0 : Nat) : Int) from rfl, hL, ob1_some]
                cases ((w :: ws).map lowS).all nameF with
                | false => rfl
                | true =>
                  simp at hcnt
                  rw [if_pos rfl, if_pos rfl, osum_inl, List.map_cons]
                  have he : ((lowS w :: ws.map lowS).drop 1).take ((lowS w :: ws.map lowS).length - 1) = ws.map lowS := by simp [List.take_of_length_le]
                  show grd _ (grd _ (grd _ (some (({ At := t, Name := lowS w, Args := _ } : GStep), ((0 : Nat) : Int))))) = _
                  rw [grd_t (by simp <;> omega), grd_t (by simp), grd_t (by simp <;> omega), he]
  rw [M_r13_step, stepF]
  cases timed with
  | false =>
    rw [sel_ff, ob1_some, osum_inl]
    exact main line 0 (Nat.le_refl _)
  | true =>
    rw [sel_tt]
    have hw : IntKind.i64.wrap ((line.size : Int) - 1) = (line.size : Int) - 1 := w64 (by omega) (by omega)
    rw [hw]
    rcases colon_cases line with ⟨h1, h2⟩ | ⟨a, r, h1, h2, h3⟩
    · rw [rcolon_none line (by omega) (-1) g line.size (Nat.le_refl _) (by omega) (by rw [List.take_of_length_le (by rw [bl_len]; exact Nat.le_refl _)]; exact h1), clockF, h2]
      rfl
    · have hl := congrArg List.length h1
      rw [bl_len] at hl
      simp at hl
      have hta : (bl line).take a.length = a := by rw [h1]; simp
      have hda : (bl line).drop (a.length + 1) = r := by rw [h1, show a.length + 1 = (a ++ [(58 : UInt8)]).length by simp, show a ++ 58 :: r = (a ++ [58]) ++ r by simp, List.drop_left]
      rw [rcolon_some line (by omega) a.length (by rw [h1]; simp) (by rw [hta]; exact h2) g line.size (-1) (Nat.le_refl _) (by omega) (by omega), ob1_some, sel_dec, if_neg (by omega), w64s (by omega), Int.toNat_natCast, Int.toNat_natCast]
      have hx : line.extract 0 a.length = ofB a := bl_inj (by rw [bl_extract, bl_ofB, List.drop_zero, Nat.sub_zero, hta])
      have hy : line.extract (a.length + 1) line.size = ofB r := bl_inj (by rw [bl_extract, bl_ofB, hda]; exact List.take_of_length_le (by omega))
      have ha : (ofB a).size = a.length := by rw [← bl_len, bl_ofB]
      have hr : (ofB r).size = r.length := by rw [← bl_len, bl_ofB]
      have hta := trim_len (ofB a)
      have htr := trim_len (ofB r)
      rw [hx, hy, rtrim_eq (ofB a) (by omega) (by omega), rtrim_eq (ofB r) (by omega) (by omega), ob1_some, clockF, h3]
      simp only
      obtain ⟨x, hx1, hx2⟩ := time_eq (trimF (ofB a)) (by omega)
      obtain ⟨x1, x2⟩ := x
      rw [hx1, ob2_some, grd_t (by omega), grd_t (by omega)]
      cases htf : timeF (trimF (ofB a)) with
      | none =>
        rw [htf] at hx2
        simp only at hx2
        subst hx2
        simp only
        rfl
      | some m =>
        rw [htf] at hx2
        simp only [Prod.mk.injEq] at hx2
        obtain ⟨rfl, rfl⟩ := hx2
        rw [sel_not, sel_tt, ob1_some, grd_t (by omega), grd_t (by omega), ob1_some, osum_inl]
        refine (main (trimF (ofB r)) x1 (by omega)).trans ?_
        rfl
/-- pieces of a split, the first of them begun -/
def hdC (cur : List UInt8) : List (List UInt8) → List (List UInt8)
  | [] => [cur]
  | h :: t => (cur ++ h) :: t
theorem splitL_hd (c : UInt8) (cur : List UInt8) (x : UInt8) (r : List UInt8) : hdC cur (splitL c (x :: r)) = if x = c then cur :: splitL c r else hdC (cur ++ [x]) (splitL c r) := by
  rw [splitL]
  by_cases h : x = c
  · rw [if_pos h, if_pos h, hdC, List.append_nil]
  · rw [if_neg h, if_neg h]
    cases hs : splitL c r with
    | nil => exact absurd hs (splitL_ne c r)
    | cons a b => simp [hdC]
theorem linesL_eq (a : ByteArray) (hs : a.size ≤ 100000) : ∀ (k f n : Nat) (out : List ByteArray), f ≤ n → n ≤ a.size → a.size + 1 < k + n → out.length ≤ n →
    M_r13_lines_L1 a k (f : Int) (n : Int) out = some (out ++ (hdC (((bl a).drop f).take (n - f)) (splitL 10 ((bl a).drop n))).map ofB)
  | 0, f, n, out, h0, h1, h2, h3 => by omega
  | k + 1, f, n, out, h0, h1, h2, h3 => by
    rw [M_r13_lines_L1, sel_dec, if_pos (by omega)]
    have app : ∀ (K : List ByteArray → Option (List ByteArray)), grd (0 ≤ (f : Int)) (grd (0 ≤ (n : Int)) (grd ((f : Int).toNat ≤ (n : Int).toNat) (grd ((n : Int).toNat ≤ a.size) (grd ((out.length + 1) * 16 ≤ 140737488355328) (K (out ++ [(a.extract (f : Int).toNat (n : Int).toNat)])))))) = K (out ++ [ofB (((bl a).drop f).take (n - f))]) := by
      intro K
      rw [grd_t (by omega), grd_t (by omega), grd_t (by omega), grd_t (by omega), grd_t (by omega)]
      congr 3
      apply bl_inj
      rw [bl_extract, bl_ofB]
      rfl
    rw [w64s (by omega)]
    by_cases hn : n < a.size
    · obtain ⟨c, hc, hd⟩ := drop_at (l := bl a) (n := n) (by rw [bl_len]; exact hn)
      have hne : ((n : Int) == (a.size : Int)) = false := by rw [beq_eq_false_iff_ne]; omega
      rw [byt_at hc, hne, sel_ff, grd_t (by omega), grd_t (by omega), ob1_some, hd, splitL_hd, show (10 : Int) = ((10 : Nat) : Int) from rfl, cz_eq c 10 (by decide)]
      by_cases h : c = 10
      · rw [if_pos h, h, show ((10 : UInt8) == UInt8.ofNat 10) = true from rfl, sel_tt, app (fun o => M_r13_lines_L1 a k ((n + 1 : Nat) : Int) ((n + 1 : Nat) : Int) o), linesL_eq a hs k (n + 1) (n + 1) _ (Nat.le_refl _) hn (by omega) (by simp; omega), Nat.sub_self, List.take_zero]
        cases hsp : splitL 10 ((bl a).drop (n + 1)) with
        | nil => exact absurd hsp (splitL_ne _ _)
        | cons x y => simp [hdC]
      · have h2' : (c == UInt8.ofNat 10) = false := beq_eq_false_iff_ne.2 h
        have ext : ((bl a).drop f).take (n - f) ++ [c] = ((bl a).drop f).take (n + 1 - f) := by
          rw [show n + 1 - f = (n - f) + 1 by omega, List.take_add_one]
          congr 1
          rw [List.getElem?_drop, show f + (n - f) = n by omega, hc]
          rfl
        rw [if_neg h, h2', sel_ff, ext]
        exact linesL_eq a hs k f (n + 1) out (by omega) hn (by omega) (by omega)
    · obtain rfl : n = a.size := by omega
      have hnil : (bl a).drop a.size = [] := List.drop_eq_nil_of_le (by rw [bl_len]; exact Nat.le_refl _)
      obtain ⟨j, rfl⟩ : ∃ j, k = j + 1 := ⟨k - 1, by omega⟩
      have last : ∀ (o : List ByteArray) (f : Int), o.length ≤ a.size + 1 → M_r13_lines_L1 a (j + 1) f ((a.size + 1 : Nat) : Int) o = some o := by
        intro o f ho
        rw [M_r13_lines_L1, sel_dec, if_neg (by omega), grd_t (by omega)]
      rw [show ((a.size : Int) == (a.size : Int)) = true by simp, sel_tt, ob1_some, sel_tt, app (fun o => M_r13_lines_L1 a (j + 1) ((a.size + 1 : Nat) : Int) ((a.size + 1 : Nat) : Int) o), last _ _ (by simp; omega), hnil]
      simp [splitL, hdC]
theorem lines_eq (s : ByteArray) {g : Nat} (hg : s.size + 1 < g) (hs : s.size ≤ 100000) : M_r13_lines g s = some ((splitL 10 (bl s)).map ofB) := by
  have h := linesL_eq s hs g 0 0 [] (Nat.le_refl _) (Nat.zero_le _) (by omega) (Nat.zero_le _)
  rw [M_r13_lines, show (0 : Int) = ((0 : Nat) : Int) from rfl, h, List.drop_zero, Nat.sub_zero, List.take_zero, List.nil_append]
  cases hsp : splitL 10 (bl s) with
  | nil => exact absurd hsp (splitL_ne _ _)
  | cons x y => simp [hdC]
/-- no step stands in a line: it is empty or a comment -/
def skipF (t : ByteArray) : Bool := decide (t.size = 0) || (bl t)[0]? == some 59
/-- the steps, the number of a line, the error's number -/
def parseL (timed : Bool) : Nat → List GStep → List ByteArray → List GStep × Int × Int
  | _, acc, [] => (acc, 0, 0)
  | n, acc, y :: r => if skipF (trimF y) then parseL timed (n + 1) acc r else if (stepF (trimF y) timed).2 = 0 then parseL timed (n + 1) (acc ++ [(stepF (trimF y) timed).1]) r else ([], ((n + 1 : Nat) : Int), (stepF (trimF y) timed).2)
def parseF (s : ByteArray) (timed : Bool) : List GStep × Int × Int := if s.size > 65536 then ([], 0, 5) else parseL timed 0 [] ((splitL 10 (bl s)).map ofB)
theorem skip_eq (t : ByteArray) (_ht : t.size ≤ 100000) : (sel (t.toList == (⟨#[]⟩ : ByteArray).toList)
          (some (.inr ()))
          (grd (0 < (t.size : Int)) (sel ((byt t 0) == 59)
            (some (.inr ()))
            (some (.inl ())))) : Option (Unit ⊕ Unit)) = some (if skipF t then .inr () else .inl ()) := by
  have he : (t.toList == (⟨#[]⟩ : ByteArray).toList) = decide (t.size = 0) := by
    have := ne_empty t
    by_cases h : t.size = 0
    · rw [decide_eq_true h]
      rw [decide_eq_false (show ¬ 1 ≤ t.size by omega)] at this
      simpa using this
    · rw [decide_eq_false h]
      rw [decide_eq_true (show 1 ≤ t.size by omega)] at this
      simpa using this
  rw [he, skipF, sel_dec]
  by_cases h : t.size = 0
  · rw [if_pos h, decide_eq_true h]
    rfl
  · have hb : (byt t 0 == 59) = ((bl t)[0]? == some 59) := byt_is (n := 0) (by omega) 59 (by decide)
    rw [if_neg h, decide_eq_false h, grd_t (by omega), hb]
    cases (bl t)[0]? == some (59 : UInt8) <;> rfl
theorem parseL_eq (timed : Bool) (Z : List ByteArray) (hZ : Z.length ≤ 100000) (hl : ∀ y ∈ Z, y.size ≤ 70000) : ∀ (k n : Nat) (acc : List GStep), n ≤ Z.length → Z.length < k + n → acc.length ≤ n →
    M_planfile_Parse_L1 timed Z k (n : Int) acc = some ((parseL timed n acc (Z.drop n)).1, (parseL timed n acc (Z.drop n)).2.1, erOf (parseL timed n acc (Z.drop n)).2.2)
  | 0, n, acc, h1, h2, _ => by omega
  | k + 1, n, acc, h1, h2, h3 => by
    rw [M_planfile_Parse_L1, sel_dec, List.length_map]
    by_cases hn : n < Z.length
    · obtain ⟨y, hy, hd⟩ := drop_at hn
      have hys := hl y (List.mem_of_getElem? hy)
      have ht := trim_len y
      rw [if_pos (by omega), ix_at hy, trim_eq y (by omega), ob1_some, skip_eq _ (by omega), ob1_some, hd, parseL, w64s (by omega)]
      by_cases hsk : skipF (trimF y) = true
      · rw [if_pos hsk, osum_inr, if_pos hsk]
        exact parseL_eq timed Z hZ hl k (n + 1) acc hn (by omega) (by omega)
      · rw [if_neg hsk, osum_inl, if_neg hsk, step_eq (trimF y) timed (by omega), ob2_some]
        by_cases hc : (stepF (trimF y) timed).2 = 0
        · rw [if_pos hc, erOf, if_pos hc]
          show grd _ _ = _
          rw [grd_t (by omega)]
          exact parseL_eq timed Z hZ hl k (n + 1) _ hn (by omega) (by simp; omega)
        · rw [if_neg hc, erOf, if_neg hc]
          rfl
    · obtain rfl : n = Z.length := by omega
      rw [if_neg (by omega), grd_t (by omega), List.drop_eq_nil_of_le (Nat.le_refl _)]
      rfl
theorem rparseL_eq (timed : Bool) {g : Nat} (Z : List ByteArray) (hZ : Z.length ≤ 100000) (hl : ∀ y ∈ Z, y.size ≤ 70000 ∧ y.size + 12 ≤ g) : ∀ (k n : Nat) (acc : List GStep), n ≤ Z.length → Z.length < k + n → acc.length ≤ n →
    M_r13_Parse_L1 timed g Z k (n : Int) acc = some (parseL timed n acc (Z.drop n))
  | 0, n, acc, h1, h2, _ => by omega
  | k + 1, n, acc, h1, h2, h3 => by
    rw [M_r13_Parse_L1, sel_dec, List.length_map]
    by_cases hn : n < Z.length
    · obtain ⟨y, hy, hd⟩ := drop_at hn
      have hys := hl y (List.mem_of_getElem? hy)
      have ht := trim_len y
      rw [if_pos (by omega), ix_at hy, rtrim_eq y (by omega) (by omega), ob1_some, skip_eq _ (by omega), ob1_some, hd, parseL, w64s (by omega)]
      by_cases hsk : skipF (trimF y) = true
      · rw [if_pos hsk, osum_inr, if_pos hsk]
        exact rparseL_eq timed Z hZ hl k (n + 1) acc hn (by omega) (by omega)
      · rw [if_neg hsk, osum_inl, if_neg hsk, rstep_eq (trimF y) timed (by omega) (by omega)]
        obtain ⟨st, hst⟩ : ∃ st, stepF (trimF y) timed = st := ⟨_, rfl⟩
        rw [hst]
        obtain ⟨s, c⟩ := st
        rw [ob2_some]
        by_cases hc : c = 0
        · subst hc
          rw [if_pos rfl]
          show grd _ _ = _
          rw [grd_t (by omega)]
          exact rparseL_eq timed Z hZ hl k (n + 1) _ hn (by omega) (by simp; omega)
        · have : (c != 0) = true := bne_iff_ne.2 hc
          rw [if_neg hc, this]
          rfl
    · obtain rfl : n = Z.length := by omega
      rw [if_neg (by omega), grd_t (by omega), List.drop_eq_nil_of_le (Nat.le_refl _)]
      rfl
theorem lines_small (s : ByteArray) : ((splitL 10 (bl s)).map ofB).length ≤ s.size + 1 ∧ ∀ y ∈ (splitL 10 (bl s)).map ofB, y.size ≤ s.size := by
  constructor
  · rw [List.length_map]
    have := splitL_len_le 10 (bl s)
    rw [bl_len] at this
    exact this
  · intro y hy
    obtain ⟨x, hx, rfl⟩ := List.mem_map.1 hy
    have := splitL_mem_len hx
    rw [bl_len] at this
    rw [← bl_len, bl_ofB]
    exact this
theorem parse_eq (s : ByteArray) (timed : Bool) (hs : s.size < 4294967281) : M_planfile_Parse s timed = some ((parseF s timed).1, (parseF s timed).2.1, erOf (parseF s timed).2.2) := by
  rw [M_planfile_Parse, sel_dec, parseF]
  by_cases h : s.size > 65536
  · rw [if_pos (by omega), if_pos h]
    rfl
  · obtain ⟨h1, h2⟩ := lines_small s
    rw [if_neg (by omega), if_neg h, M_strings_Split, grd_t hs, grd_t (by decide), split_eq 10 s.size s (Nat.le_refl _), ob1_some, List.length_map, Int.toNat_natCast]
    exact parseL_eq timed _ (by omega) (fun y hy => by have := h2 y hy; omega) _ 0 [] (Nat.zero_le _) (by omega) (Nat.zero_le _)
theorem rparse_eq (s : ByteArray) (timed : Bool) {g : Nat} (hg : s.size + 12 ≤ g) : M_r13_Parse g s timed = some (parseF s timed) := by
  rw [M_r13_Parse, sel_dec, parseF]
  by_cases h : s.size > 65536
  · rw [if_pos (by omega), if_pos h]
  · obtain ⟨h1, h2⟩ := lines_small s
    rw [if_neg (by omega), if_neg h, lines_eq s (by omega) (by omega), ob1_some, List.length_map, Int.toNat_natCast]
    exact rparseL_eq timed _ (by omega) (fun y hy => by have := h2 y hy; omega) _ 0 [] (Nat.zero_le _) (by omega) (Nat.zero_le _)
end Go.Proofs.YtljekaadbabhkaaDoor.Am
/- Plain laws of chapter 13: equal steps, the example of each statement; PlanfileParses is true. -/
namespace Go.Proofs.YtljekaadbabhkaaDoor.Am
open Go.RowKit

theorem texts_eq1 (a b : List ByteArray) (hl : a.length = b.length) (hs : a.length < 9223372036854775807) : ∀ (k n : Nat), n ≤ a.length → a.length < k + n → M_b_Texts_L1 a b k (n : Int) = some (decide (a.drop n = b.drop n))
  | 0, n, h1, h2 => by omega
  | k + 1, n, h1, h2 => by
    rw [M_b_Texts_L1, sel_dec, List.length_map]
    by_cases hn : n < a.length
    · obtain ⟨x, hx, hd⟩ := drop_at hn
      obtain ⟨y, hy, hd2⟩ := drop_at (l := b) (n := n) (by omega)
      rw [if_pos (by omega), ix_at hx, ix_at hy, beq_bl, sel_not, sel_dec, w64s (by omega), texts_eq1 a b hl hs k (n + 1) hn (by omega), hd, hd2]
      by_cases e : x = y
      · rw [if_pos e]
        simp [e]
      · rw [if_neg e]
        simp [e]
    · rw [if_neg (by omega), List.drop_eq_nil_of_le (by omega), List.drop_eq_nil_of_le (by omega)]
      rfl
theorem texts_eq (a b : List ByteArray) (hs : a.length < 9223372036854775807) : M_b_Texts a b = some (decide (a = b)) := by
  rw [M_b_Texts, List.length_map, List.length_map]
  by_cases hl : a.length = b.length
  · have hf : ((a.length : Int) != (b.length : Int)) = false := by rw [bne_eq_false_iff_eq]; omega
    rw [hf, sel_ff, Int.toNat_natCast, show (0 : Int) = ((0 : Nat) : Int) from rfl, texts_eq1 a b hl hs (a.length + 1) 0 (Nat.zero_le _) (by omega), List.drop_zero, List.drop_zero]
  · have hf : ((a.length : Int) != (b.length : Int)) = true := by rw [bne_iff_ne]; omega
    rw [hf, sel_tt, decide_eq_false (fun e => hl (by rw [e]))]
theorem same_eq1 (a b : List GStep) (hl : a.length = b.length) (hs : a.length < 9223372036854775807) (ha : ∀ x ∈ a, x.Args.length < 9223372036854775807) : ∀ (k n : Nat), n ≤ a.length → a.length < k + n → M_l13_Same_L1 a b k (n : Int) = some (decide (a.drop n = b.drop n))
  | 0, n, h1, h2 => by omega
  | k + 1, n, h1, h2 => by
    rw [M_l13_Same_L1, sel_dec, List.length_map]
    by_cases hn : n < a.length
    · obtain ⟨x, hx, hd⟩ := drop_at hn
      obtain ⟨y, hy, hd2⟩ := drop_at (l := b) (n := n) (by omega)
      have hxa := ha x (List.mem_of_getElem? hx)
      rw [if_pos (by omega)]
      simp only [ix_at hx, ix_at hy]
      rw [beq_bl, texts_eq _ _ hxa, ob1_some, w64s (by omega), same_eq1 a b hl hs ha k (n + 1) hn (by omega), hd, hd2, sel_not, sel_not, sel_dec, sel_dec]
      have key : x = y ↔ x.At = y.At ∧ x.Name = y.Name ∧ x.Args = y.Args := by
        obtain ⟨x1, x2, x3⟩ := x
        obtain ⟨y1, y2, y3⟩ := y
        simp
      by_cases e : x = y
      · obtain ⟨e1, e2, e3⟩ := key.1 e
        have hf : (x.At != y.At) = false := by rw [bne_eq_false_iff_eq]; exact e1
        rw [hf, sel_ff, if_pos e2, if_pos e3]
        simp [e]
      · have hr : decide (x :: a.drop (n + 1) = y :: b.drop (n + 1)) = false := decide_eq_false (fun h => e (List.cons.inj h).1)
        rw [hr]
        by_cases e1 : x.At = y.At
        · have hf : (x.At != y.At) = false := by rw [bne_eq_false_iff_eq]; exact e1
          rw [hf, sel_ff]
          by_cases e2 : x.Name = y.Name
          · rw [if_pos e2, if_neg (fun e3 => e (key.2 ⟨e1, e2, e3⟩))]
          · rw [if_neg e2]
        · have hf : (x.At != y.At) = true := by rw [bne_iff_ne]; exact e1
          rw [hf, sel_tt]
    · rw [if_neg (by omega), List.drop_eq_nil_of_le (by omega), List.drop_eq_nil_of_le (by omega)]
      rfl
theorem same_eq (a b : List GStep) (hs : a.length < 9223372036854775807) (ha : ∀ x ∈ a, x.Args.length < 9223372036854775807) : M_l13_Same a b = some (decide (a = b)) := by
  rw [M_l13_Same, List.length_map, List.length_map]
  by_cases hl : a.length = b.length
  · have hf : ((a.length : Int) != (b.length : Int)) = false := by rw [bne_eq_false_iff_eq]; omega
    rw [hf, sel_ff, Int.toNat_natCast, show (0 : Int) = ((0 : Nat) : Int) from rfl, same_eq1 a b hl hs ha (a.length + 1) 0 (Nat.zero_le _) (by omega), List.drop_zero, List.drop_zero]
  · have hf : ((a.length : Int) != (b.length : Int)) = true := by rw [bne_iff_ne]; omega
    rw [hf, sel_tt, decide_eq_false (fun e => hl (by rw [e]))]
theorem awake_parse : parseF ⟨#[40, 109, 111, 118, 101, 32, 97, 32, 98, 41]⟩ false = ([{ At := 0, Name := ⟨#[109, 111, 118, 101]⟩, Args := [⟨#[97]⟩, ⟨#[98]⟩] }], 0, 0) := by kernel_rfl
theorem awake_eq : M_l13_awake = some true := by
  rw [M_l13_awake, parse_eq _ _ (by decide), awake_parse]
  simp only
  rw [ob3_some, erOf, if_pos rfl]
  show sel _ _ _ = _
  rw [beq_bl, decide_eq_true rfl, sel_tt, show (0 : Int) = ((0 : Nat) : Int) from rfl, ix_at (y := ({ At := 0, Name := ⟨#[109, 111, 118, 101]⟩, Args := [⟨#[97]⟩, ⟨#[98]⟩] } : GStep)) rfl, texts_eq _ _ (by decide), ob1_some, decide_eq_true rfl]
/-- bounds on what Parse returns -/
theorem stepF_args (line : ByteArray) (timed : Bool) : (stepF line timed).1.Args.length ≤ line.size + 1 := by
  unfold stepF
  cases hc : (if timed then clockF line else some (0, line)) with
  | none => simp [step0]
  | some x =>
    obtain ⟨t, l⟩ := x
    have hl : l.size ≤ line.size := by
      cases timed with
      | false => cases hc; exact Nat.le_refl _
      | true => exact clock_len hc
    simp only
    cases hw : wordsP l with
    | none => simp [step0]
    | some L =>
      have := words_count hw
      cases L with
      | nil => simp [step0]
      | cons w ws =>
        simp only
        split
        · simp [step0]
        · split
          · simp at this ⊢; omega
          · simp [step0]
theorem parseL_bound (timed : Bool) (B : Nat) : ∀ (Z : List ByteArray) (n : Nat) (acc : List GStep), (∀ y ∈ Z, y.size ≤ B) → (∀ x ∈ acc, x.Args.length ≤ B + 1) →
    (parseL timed n acc Z).1.length ≤ acc.length + Z.length ∧ ∀ x ∈ (parseL timed n acc Z).1, x.Args.length ≤ B + 1
  | [], n, acc, _, h2 => ⟨by simp [parseL], h2⟩
  | y :: r, n, acc, h1, h2 => by
    rw [parseL]
    split
    · obtain ⟨p1, p2⟩ := parseL_bound timed B r (n + 1) acc (fun z hz => h1 z (by simp [hz])) h2
      exact ⟨by simp; omega, p2⟩
    · split
      · obtain ⟨p1, p2⟩ := parseL_bound timed B r (n + 1) (acc ++ [(stepF (trimF y) timed).1]) (fun z hz => h1 z (by simp [hz])) (fun x hx => by
          rcases List.mem_append.1 hx with hx | hx
          · exact h2 x hx
          · simp at hx
            subst hx
            have h3 := stepF_args (trimF y) timed
            have h4 := trim_len y
            have h5 := h1 y (by simp)
            omega)
        exact ⟨by simp at p1 ⊢; omega, p2⟩
      · exact ⟨by simp, by simp⟩
theorem parse_bound (s : ByteArray) (timed : Bool) (hs : s.size < 4294967281) : (parseF s timed).1.length < 9223372036854775807 ∧ ∀ x ∈ (parseF s timed).1, x.Args.length < 9223372036854775807 := by
  rw [parseF]
  split
  · exact ⟨by simp, by simp⟩
  · obtain ⟨h1, h2⟩ := lines_small s
    obtain ⟨p1, p2⟩ := parseL_bound timed s.size _ 0 [] h2 (by simp)
    exact ⟨by simp at p1; rw [List.length_map] at h1; omega, fun x hx => by have := p2 x hx; omega⟩
theorem num_er (z : Int) : M_b_Num (erOf z) = some z := by
  rw [M_b_Num, erOf]
  split
  · subst_vars; rfl
  · rfl
theorem parses_true (s : ByteArray) (timed : Bool) : M_l13_PlanfileParses 100000 s timed = some true := by
  rw [M_l13_PlanfileParses, awake_eq, ob1_some, ob1_some]
  simp only [sel_dec]
  by_cases h : s.size > 3000
  · rw [if_pos (by omega)]
    rfl
  · obtain ⟨h1, h2⟩ := parse_bound s timed (by omega)
    rw [if_neg (by omega), sel_not, sel_tt, ob1_some, osum_inl, parse_eq s timed (by omega), rparse_eq s timed (by omega)]
    obtain ⟨x, hx⟩ : ∃ x, parseF s timed = x := ⟨_, rfl⟩
    rw [hx] at h1 h2 ⊢
    obtain ⟨l, n, c⟩ := x
    rw [ob3_some, ob3_some, num_er, ob1_some, show (c == c) = true by simp, sel_tt, show (n == n) = true by simp, sel_tt, same_eq l l h1 h2, ob1_some, decide_eq_true rfl]
end Go.Proofs.YtljekaadbabhkaaDoor.Am
/- Opening arguments: slices of numbers, of facts, of nogoods, a certificate. -/
namespace Go.Proofs.YtljekaadbabhkaaDoor
open Go.RowKit Go.ChangeShapes Go.WideShapes Go.Deep Go.Joins

section
variable {H : Type} {enc : TypeId × Value → H} {P : Program} {w : World} {base : Nat} {spare : Nat → Bool} {held : Bool}

end

end Go.Proofs.YtljekaadbabhkaaDoor
/- Opening arguments for the abstract machine: readers that compose. -/
namespace Go.Proofs.YtljekaadbabhkaaDoor.Am
open Go.RowKit Go.ChangeShapes Go.WideShapes Go.Deep Go.Joins

section
variable {H : Type} {enc : TypeId × Value → H} {P : Program} {w : World} {base : Nat} {spare : Nat → Bool} {held : Bool}
end
end Go.Proofs.YtljekaadbabhkaaDoor.Am
/- From a walk to a law's row: the arguments read behind the call as before, the result is true. -/
namespace Go.Proofs.YtljekaadbabhkaaDoor
open Go.RowKit Go.WideShapes Go.ChangeShapes Go.ChangeAt
section
variable {H : Type} {enc : TypeId × Value → H} {P : Program}
theorem post_of_below {f : Func} {s : ChangeSpec} {apart fresh handsOn again : Bool} {W W' : World} {args : Array Value} {v : Value} {ds gs : List (DataW H)} {before pa pv : List MemPlace}
    (hW : DataW.Whole enc P f.params.toList s.vars apart W args.toList ds gs before)
    (hres : ∀ (b : Nat) (sp : Nat → Bool) (hd : Bool), DataW.TrodAll enc P W' b sp hd f.resultTypes.toList (v.resultList f.resultTypes.size) (s.fn H (ds ++ gs)).results [])
    (hargs : ∀ sp : Nat → Bool, (∀ p ∈ before, sp p.block = true) → DataW.TrodAll enc P W' 0 sp true f.params.toList args.toList (s.fn H (ds ++ gs)).args pa)
    (hvars : ∀ sp : Nat → Bool, (∀ p ∈ before, sp p.block = true) → DataW.TrodVars enc P W' sp s.vars (s.fn H (ds ++ gs)).vars pv)
    (hps : before = pa ++ pv) (hb : Below W.heap.size W W')
    (hok : ∀ (j : Nat) (t : TypeId) (r : Value), f.resultTypes[j]? = some t → (v.resultList f.resultTypes.size)[j]? = some r → Value.okWide P W' .any 0 t r) :
    s.post enc P f apart fresh handsOn again W args v W' := by
  have hlt : ∀ p ∈ before, p.block < W.heap.size := fun p hp => hW.lt p hp
  have hold : ∀ p ∈ before, (fun b => decide (b < W.heap.size)) p.block = true := fun p hp => by simpa using hlt p hp
  refine ⟨ds, gs, before, [], pa, pv, hW, hres _ _ _, hargs _ hold, hvars _ hold, World.keptBut_mono (fun p hp => ⟨hp, ?_⟩) (hb.frame (· ∈ before)), fun _ => ?_⟩
  · rw [hps, List.mem_append] at hp
    exact Or.inr hp
  · obtain ⟨_, _, _, _, _, hz, hn⟩ := hW
    refine ⟨hok, _, _, ([] ++ pa) ++ pv, ⟨[] ++ pa, pv, trodAll_append (hargs _ (fun _ _ => rfl)) (hres _ _ _), hvars _ (fun _ _ => rfl), rfl, ?_, ?_⟩, ?_⟩
    · intro b off hp
      have hin : MemPlace.cell b off ∈ before := by rw [hps]; simpa using hp
      rw [hb.frozen (hlt _ hin)]
      exact hz b off hin
    · intro ha
      have := hn ha
      rw [hps] at this
      simpa using this
    · intro p hp _
      rw [hps]
      simpa using hp

theorem trodAll_keep (hl : laidOutB P = true) {W W' : World} (hb : Below W.heap.size W W') (sp : Nat → Bool) (ts : List TypeId) : ∀ (vs : List Value) (ds : List (DataW H)) (ps : List MemPlace), (∀ t ∈ ts, P.readableRec t = true ∧ t < P.types.size) →
    DataW.TrodAll enc P W 0 (fun _ => true) true ts vs ds ps → (∀ x ∈ ps, x.block < W.heap.size) → (∀ x ∈ ps, sp x.block = true) → DataW.TrodAll enc P W' 0 sp true ts vs ds ps := by
  induction ts with
  | nil =>
    intro vs ds ps _ h _ _
    obtain ⟨rfl, rfl, rfl⟩ := trodAll_nil h
    exact trodAll_mk0
  | cons t ts ih =>
    intro vs ds ps hts h hlt hsp
    obtain ⟨v0, vs0, d0, ds0, p0, q0, rfl, rfl, rfl, h0, r0⟩ := trodAll_cons h
    obtain ⟨hr, hrow⟩ := hts t (by simp)
    exact trodAll_cons_mk (WideElems.Trod_stays hl hr hrow h0 (fun x hx => hb.same (hlt x (by simp [hx]))) (fun x hx => hsp x (by simp [hx])))
      (ih _ _ _ (fun t ht => hts t (by simp [ht])) r0 (fun x hx => hlt x (by simp [hx])) (fun x hx => hsp x (by simp [hx])))

/-- A LAW: it returned true, nothing that was there has turned. -/
theorem law_post (hl : laidOutB P = true) {f : Func} {s : ChangeSpec} {T : TypeId} {W W' : World} {args : Array Value} {ds : List (DataW H)} {before : List MemPlace}
    (hvars : s.vars = []) (hrt : f.resultTypes = #[T]) (hT : P.underlying T = some .bool) (hts : f.params.toList.all (fun t => P.readableRec t && decide (t < P.types.size)) = true)
    (hW : DataW.Whole enc P f.params.toList s.vars false W args.toList ds [] before) (hA : DataW.TrodAll enc P W 0 (fun _ => true) true f.params.toList args.toList ds before)
    (e1 : (s.fn H (ds ++ [])).results = [.lit (.bool true)]) (e2 : (s.fn H (ds ++ [])).args = ds) (e3 : (s.fn H (ds ++ [])).vars = []) (hb : Below W.heap.size W W') :
    s.post enc P f false true false false W args (.bool true) W' := by
  have hlt : ∀ x ∈ before, x.block < W.heap.size := fun x hx => hW.lt x hx
  refine post_of_below (pa := before) (pv := []) hW ?_ ?_ ?_ (by simp) hb ?_
  · intro b sp hd
    rw [e1, hrt]
    exact trodAll_cons_mk (shut_bool hT true) trodAll_mk0
  · intro sp hsp
    rw [e2]
    exact trodAll_keep hl hb sp _ _ _ _ (fun t ht => by simpa using List.all_eq_true.1 hts t ht) hA hlt hsp
  · intro sp hsp
    rw [e3, hvars]
    rfl
  · exact ok_one hrt rfl (okWide_bool_mk hT true)
end
end Go.Proofs.YtljekaadbabhkaaDoor
/- stratagemlaw13.PlanfileParses returns true for every input. No condition beyond the card's own. -/
namespace Go.Proofs.YtljekaadbabhkaaDoor.rowParses
open Go.ChangeShapes Go.WideShapes Go.ChangeAt Go.RowKit Am

set_option maxRecDepth 100000 in
theorem contract (H : Type) (enc : TypeId × Value → H) (W : World) (base : Nat) (args : Array Value) (ds gs : List (DataW H)) (before : List MemPlace)
    (hval : ∀ (j : Nat) t v, Tryd.f3.params[j]? = some t → args[j]? = some v → Value.okWide Tryd.prog W .any base t v)
    (hW : DataW.Whole enc Tryd.prog Tryd.f3.params.toList Rows.planfileParsesSpec.vars false W args.toList ds gs before) (hL : laidMetH Tryd.prog Rows.planfileParsesRow.laid W)
    (hsz : (DataW.weightsEach Tryd.prog (Tryd.f3.params.toList ++ (OpenSpec.ofChange Rows.planfileParsesSpec).bare.plain.varTypes Tryd.prog) (ds ++ gs)).all (· ≤ reachBytes) = true) (hsh : W.ShapedOpen Tryd.prog) :
    Calls Tryd.prog 3 args W fun e W' => ∃ v, e = .returned v ∧ Rows.planfileParsesSpec.post enc Tryd.prog Tryd.f3 false true false false W args v W' := by
  have hW' := hW
  obtain ⟨p, q, hA0, hV, rfl, hfz, hnd⟩ := hW
  have hA : DataW.TrodAll enc Tryd.prog W 0 (fun _ => true) true Tryd.f3.params.toList args.toList ds p := hA0
  rw [Tryd.params3] at hA hval
  obtain ⟨v0, vs0, d0, ds0, p0, q0, hargs, rfl, rfl, h0, r0⟩ := trodAll_cons hA
  obtain ⟨v1, vs1, d1, ds1, p1, q1, rfl, rfl, rfl, h1, r1⟩ := trodAll_cons r0
  obtain ⟨rfl, rfl, rfl⟩ := trodAll_nil r1
  obtain rfl : args = #[v0, v1] := Array.ext' hargs
  obtain ⟨rfl, rfl⟩ := trodVars_none hV
  simp only [List.append_nil] at hW' hA0 hsz
  obtain ⟨s, rfl⟩ := okWide_string Tryd.underlying9 (hval 0 9 v0 rfl rfl)
  obtain ⟨b, rfl⟩ := okWide_bool Tryd.underlying4 (hval 1 4 v1 rfl rfl)
  refine (law_of (A_l13_PlanfileParses 100000 s b (parses_true s b)) ⟨trivial, Tryd.laysM146.s1_3 W hsh⟩ rfl (fun j x v hx hv => ?_)).mono fun e W' ⟨he, hb⟩ => ?_
  · match j, hx, hv with
    | 0, hx, hv => simp at hx hv; subst hx hv; exact .c _
    | 1, hx, hv => simp at hx hv; subst hx hv; exact .c _
    | j + 2, hx, hv => simp at hx
  · subst he
    exact ⟨_, rfl, law_post laidOut rfl (by kernel_rfl) Tryd.underlying4 (by kernel_rfl) hW' hA0 rfl rfl rfl hb⟩
theorem laid_met (os : Os) : laidMet Tryd.prog Rows.planfileParsesRow.laid ((laidWorld5 os).forCall (fun _ _ => 0) ⟨#[], #[.string ⟨#[]⟩, .bool false], []⟩).memory :=
  laidMet_of_run' 8 (by kernel_rfl) (by kernel_rfl)
theorem reads (os : Os) {H : Type} (enc : TypeId × Value → H) : ∃ places, DataW.whole enc Tryd.prog ((laidWorld5 os).forCall (fun _ _ => 0) ⟨#[], #[.string ⟨#[]⟩, .bool false], []⟩).memory Tryd.f3.params.toList Rows.planfileParsesSpec.vars false (#[.string ⟨#[]⟩, .bool false] : Array Value).toList 8 = some ([.lit (.string []), .lit (.bool false)], [], places) :=
  ⟨[], by kernel_rfl⟩

set_option maxRecDepth 100000 in
theorem lifted (os : Os) (started : os.Started) (H : Type) (enc : TypeId × Value → H) (F : Stop.Interp) :
    ReturnsInHanded {} Tryd.checked os 3 .any ((OpenSpec.ofChange Rows.planfileParsesSpec).preRow enc Tryd.prog Tryd.f3 Rows.planfileParsesRow.domain false Rows.planfileParsesRow.laid) (((OpenSpec.ofChange Rows.planfileParsesSpec).at F).post enc Tryd.prog Tryd.f3 false true false false) := by
  obtain ⟨places, hx⟩ := reads os enc
  refine returnsInHanded_of_row (C := Tryd.checked) (s := OpenSpec.ofChange Rows.planfileParsesSpec) own started (by kernel_rfl) Tryd.func3
    (witness_row_at (enc := enc) (C := Tryd.checked) false (laidWorld5 os) #[.string ⟨#[]⟩, .bool false] rfl (by kernel_rfl) (by kernel_rfl) (by kernel_rfl)
      (OpenSpec.preRow_of_cond 8 hx (by kernel_rfl) (fun k hk => by cases hk) (by kernel_rfl) (laid_met os))) ?_
  intro W base args ds gs before hval hW _ _ hsz hL hsh _
  exact contract H enc W base args ds gs before hval hW hL hsz hsh

theorem said : Rows.PlanfileParsesSaid :=
  OpenClaim.holds_of_cond 3 Tryd.f3 rfl rfl rfl rfl rfl rfl rfl ⟨rfl, rfl, rfl, rfl, rfl⟩ rfl rfl rfl rfl rfl (by kernel_rfl) Tryd.func3 (by kernel_rfl)
    (of_decide_eq_true (by kernel_rfl)) (by unfold Func.isWrapper; first | (rw [if_pos (by decide +kernel)]; kernel_rfl) | (rw [if_neg (by decide +kernel)]; exact ⟨rfl, rfl⟩))
    (fun os started H enc _ F => by rw [OpenClaim.pre_eq_preRow]; exact lifted os started H enc F)

theorem plain (f : FuncId) (fn : Func) (hf : Tryd.pinned.checked.prog.funcNamed Rows.planfileParsesRow.func = some f) (hfn : Tryd.pinned.checked.prog.funcs[f]? = some fn) :
    true = Tryd.pinned.checked.prog.looks [] ∧ ∀ (j : Nat) t, fn.params[j]? = some t → Tryd.pinned.checked.prog.wantsStandIn t = false := by
  obtain rfl : f = 3 := Option.some.inj ((show Tryd.prog.funcNamed Rows.planfileParsesRow.func = some 3 by kernel_rfl).symm.trans hf) |>.symm
  obtain rfl : fn = Tryd.f3 := (Option.some.inj (Tryd.func3.symm.trans hfn)).symm
  refine ⟨by kernel_rfl, fun j t ht => ?_⟩
  have hall : Tryd.f3.params.toList.all (fun t => !Tryd.prog.wantsStandIn t) = true := by kernel_rfl
  have := List.all_eq_true.1 hall t (by simpa using Array.mem_of_getElem? ht)
  have h2 : Tryd.prog.wantsStandIn t = false := by simpa using this
  exact h2

/-- THE CARD: stratagemlaw13's statement holds. -/
theorem card : Rows.PlanfileParsesCardSaid :=
  Claim7.holds_tied_plain_at .later [] _ _ _ _ said (fun _ h => by cases h) (by kernel_rfl) (fun _ h => by cases h) planfileParses_row_tie rfl ⟨rfl, rfl⟩ (by kernel_rfl) rfl plain (by kernel_rfl)
end Go.Proofs.YtljekaadbabhkaaDoor.rowParses
