/- stratagemlaw13.PlanfileOrders returns true for every input. No condition beyond the card's own. -/
import Derived.Test.YtljekaadbabhkaaDoorB3
import Derived.Test.YtljekaadbabhkaaDoorB1
import Derived.Deep.Slices
import Derived.Deep.Fields
import Derived.ChangeSame
import Derived.SizedLaws
import Derived.Lib.SmallJoins
import Derived.Below
import Derived.OpenShut
import Derived.Carry
import Derived.Test.YtljekaadbabhkaaDoorB2
/- Plain: comparisons, and the order of steps. -/
namespace Go.Proofs.YtljekaadbabhkaaDoor.Am
open Go.RowKit

section
variable {X Y Z : Type}
/-- a comparison: a strict order, and 0 for equal arguments alone -/
structure IsCmp (c : Z → Z → Int) : Prop where
  eq : ∀ x y, c x y = 0 ↔ x = y
  anti : ∀ x y, c x y < 0 ↔ 0 < c y x
  trans : ∀ x y z, c x y < 0 → c y z < 0 → c x z < 0
theorem IsCmp.le_trans {c : Z → Z → Int} (h : IsCmp c) {x y z : Z} (h1 : c x y ≤ 0) (h2 : c y z ≤ 0) : c x z ≤ 0 := by
  by_cases e1 : c x y = 0
  · rw [(h.eq x y).1 e1]; exact h2
  · by_cases e2 : c y z = 0
    · rw [← (h.eq y z).1 e2]; exact h1
    · have := h.trans x y z (by omega) (by omega)
      omega
theorem IsCmp.le_asym {c : Z → Z → Int} (h : IsCmp c) {x y : Z} (h1 : c x y ≤ 0) (h2 : c y x ≤ 0) : x = y := by
  have := h.anti x y
  exact (h.eq x y).1 (by omega)
def pairC (c : X → X → Int) (d : Y → Y → Int) (x y : X × Y) : Int := if c x.1 y.1 = 0 then d x.2 y.2 else c x.1 y.1
theorem IsCmp.pair {c : X → X → Int} {d : Y → Y → Int} (a : IsCmp c) (b : IsCmp d) : IsCmp (pairC c d) := by
  refine ⟨fun x y => ?_, fun x y => ?_, fun x y z => ?_⟩
  · unfold pairC
    rw [Prod.ext_iff]
    by_cases h : c x.1 y.1 = 0
    · rw [if_pos h, b.eq]
      exact ⟨fun e => ⟨(a.eq _ _).1 h, e⟩, fun e => e.2⟩
    · rw [if_neg h]
      exact ⟨fun e => absurd e h, fun e => absurd ((a.eq _ _).2 e.1) h⟩
  · unfold pairC
    by_cases h : c x.1 y.1 = 0
    · rw [if_pos h, if_pos ((a.eq _ _).2 ((a.eq _ _).1 h).symm)]
      exact b.anti _ _
    · rw [if_neg h, if_neg (fun e => h ((a.eq _ _).2 ((a.eq _ _).1 e).symm))]
      exact a.anti _ _
  · unfold pairC
    by_cases h : c x.1 y.1 = 0
    · rw [if_pos h, (a.eq _ _).1 h]
      by_cases h2 : c y.1 z.1 = 0
      · rw [if_pos h2, if_pos h2]; exact b.trans _ _ _
      · rw [if_neg h2, if_neg h2]; exact fun _ e => e
    · rw [if_neg h]
      by_cases h2 : c y.1 z.1 = 0
      · rw [if_pos h2, ← (a.eq _ _).1 h2, if_neg h]
        exact fun e _ => e
      · rw [if_neg h2]
        intro e1 e2
        have := a.trans _ _ _ e1 e2
        rw [if_neg (by omega)]
        exact this
theorem IsCmp.inj {c : Z → Z → Int} (a : IsCmp c) (f : X → Z) (hf : ∀ x y, f x = f y → x = y) : IsCmp (fun x y => c (f x) (f y)) :=
  ⟨fun x y => (a.eq _ _).trans ⟨hf x y, fun e => by rw [e]⟩, fun x y => a.anti _ _, fun x y z => a.trans _ _ _⟩
def lexC (c : Z → Z → Int) : List Z → List Z → Int
  | [], [] => 0
  | [], _ :: _ => -1
  | _ :: _, [] => 1
  | a :: r, b :: q => if c a b = 0 then lexC c r q else c a b
theorem lexC_eq {c : Z → Z → Int} (a : IsCmp c) : ∀ x y, lexC c x y = 0 ↔ x = y
  | [], [] => by simp [lexC]
  | [], _ :: _ => by simp [lexC]
  | _ :: _, [] => by simp [lexC]
  | x :: xs, y :: ys => by
    rw [lexC]
    by_cases h : c x y = 0
    · rw [if_pos h, lexC_eq a xs ys]
      simp [(a.eq x y).1 h]
    · rw [if_neg h]
      exact ⟨fun e => absurd e h, fun e => absurd ((a.eq _ _).2 (List.cons.inj e).1) h⟩
theorem lexC_anti {c : Z → Z → Int} (a : IsCmp c) : ∀ x y, lexC c x y < 0 ↔ 0 < lexC c y x
  | [], [] => by simp [lexC]
  | [], _ :: _ => by simp [lexC]
  | _ :: _, [] => by simp [lexC]
  | x :: xs, y :: ys => by
    rw [lexC, lexC]
    by_cases h : c x y = 0
    · rw [if_pos h, if_pos ((a.eq _ _).2 ((a.eq _ _).1 h).symm)]
      exact lexC_anti a xs ys
    · rw [if_neg h, if_neg (fun e => h ((a.eq _ _).2 ((a.eq _ _).1 e).symm))]
      exact a.anti _ _
theorem lexC_trans {c : Z → Z → Int} (a : IsCmp c) : ∀ x y z, lexC c x y < 0 → lexC c y z < 0 → lexC c x z < 0
  | [], [], z => by simp [lexC]
  | [], _ :: _, [] => by simp [lexC]
  | [], _ :: _, _ :: _ => by simp [lexC]
  | _ :: _, [], z => by simp [lexC]
  | _ :: _, _ :: _, [] => by simp [lexC]
  | x :: xs, y :: ys, z :: zs => by
    rw [lexC, lexC, lexC]
    by_cases h : c x y = 0
    · rw [if_pos h, (a.eq _ _).1 h]
      by_cases h2 : c y z = 0
      · rw [if_pos h2, if_pos h2]; exact lexC_trans a xs ys zs
      · rw [if_neg h2, if_neg h2]; exact fun _ e => e
    · rw [if_neg h]
      by_cases h2 : c y z = 0
      · rw [if_pos h2, ← (a.eq _ _).1 h2, if_neg h]
        exact fun e _ => e
      · rw [if_neg h2]
        intro e1 e2
        have := a.trans _ _ _ e1 e2
        rw [if_neg (by omega)]
        exact this
theorem IsCmp.lex {c : Z → Z → Int} (a : IsCmp c) : IsCmp (lexC c) := ⟨lexC_eq a, lexC_anti a, lexC_trans a⟩
theorem IsCmp.ord {c : GStep → GStep → Int} (a : IsCmp c) : Ord (ltc c) := by
  have key : ∀ x y, leB (ltc c) x y ↔ c x y ≤ 0 := fun x y => by
    unfold leB ltc
    rw [decide_eq_false_iff_not]
    have := a.anti y x
    have := a.anti x y
    omega
  refine ⟨fun x y z h1 h2 => ?_, fun x y h => ?_⟩
  · rw [key] at *
    exact a.le_trans h1 h2
  · rw [key]
    have : c x y < 0 := of_decide_eq_true h
    omega
end
def byteC (a b : UInt8) : Int := if a < b then -1 else if b < a then 1 else 0
def intC (a b : Int) : Int := if a = b then 0 else if a < b then -1 else 1
theorem byteC_cmp : IsCmp byteC := by
  have key : ∀ a b : UInt8, byteC a b = intC (a.toNat : Int) (b.toNat : Int) := fun a b => by
    unfold byteC intC
    simp only [UInt8.lt_iff_toNat_lt]
    repeat' split
    all_goals omega
  have hi : ∀ a b : UInt8, (a.toNat : Int) = (b.toNat : Int) → a = b := fun a b h => UInt8.toNat_inj.1 (by omega)
  refine ⟨fun x y => ?_, fun x y => ?_, fun x y z => ?_⟩
  · rw [key]
    unfold intC
    refine ⟨fun h => hi x y ?_, fun h => by subst h; simp⟩
    revert h
    repeat' split
    all_goals omega
  · rw [key, key]
    unfold intC
    repeat' split
    all_goals omega
  · rw [key, key, key]
    unfold intC
    repeat' split
    all_goals omega
theorem intC_cmp : IsCmp intC := by
  refine ⟨fun x y => ?_, fun x y => ?_, fun x y z => ?_⟩
  · unfold intC
    repeat' split
    all_goals omega
  · unfold intC
    repeat' split
    all_goals omega
  · unfold intC
    repeat' split
    all_goals omega
theorem cmpB_lex : ∀ x y, Lib.compareBytes x y = lexC byteC x y
  | [], [] => rfl
  | [], _ :: _ => rfl
  | _ :: _, [] => rfl
  | a :: x, b :: y => by
    rw [Lib.compareBytes, lexC, cmpB_lex x y, byteC]
    by_cases h1 : a < b
    · rw [if_pos h1, if_pos h1, if_neg (by decide)]
    · rw [if_neg h1, if_neg h1]
      by_cases h2 : b < a
      · rw [if_pos h2, if_pos h2, if_neg (by decide)]
      · rw [if_neg h2, if_neg h2, if_pos rfl]
/-- strings -/
def strC (s t : ByteArray) : Int := Lib.compareBytes (bl s) (bl t)
theorem strC_cmp : IsCmp strC := by
  have h := byteC_cmp.lex.inj bl (fun x y => bl_inj)
  have e : (fun x y => lexC byteC (bl x) (bl y)) = strC := by funext x y; exact (cmpB_lex _ _).symm
  rwa [e] at h
theorem less_cmpB : ∀ x y, Op.bytesLess x y = decide (Lib.compareBytes x y < 0)
  | [], [] => rfl
  | _ :: _, [] => rfl
  | [], _ :: _ => rfl
  | a :: x, b :: y => by
    rw [Op.bytesLess, less_cmpB x y, Lib.compareBytes]
    by_cases h1 : a < b
    · rw [if_pos h1]; simp [h1]
    · rw [if_neg h1]
      by_cases h2 : b < a
      · rw [if_pos h2]
        have : ¬ a = b := fun e => by subst e; exact h1 h2
        simp [h1, this]
      · rw [if_neg h2]
        have : a = b := UInt8.le_antisymm (UInt8.not_lt.1 h2) (UInt8.not_lt.1 h1)
        simp [this]
theorem less_str (s t : ByteArray) : Op.bytesLess s.toList t.toList = decide (strC s t < 0) := by rw [toList_bl, toList_bl, less_cmpB]; rfl
/-- steps -/
def stepC (x y : GStep) : Int := pairC intC (pairC strC (lexC strC)) (x.At, x.Name, x.Args) (y.At, y.Name, y.Args)
theorem stepC_cmp : IsCmp stepC := (intC_cmp.pair (strC_cmp.pair strC_cmp.lex)).inj (fun x : GStep => (x.At, x.Name, x.Args)) (fun x y h => by
  obtain ⟨x1, x2, x3⟩ := x
  obtain ⟨y1, y2, y3⟩ := y
  simp at h
  simp [h])

theorem stepC_def (x y : GStep) : stepC x y = if x.At = y.At then (if strC x.Name y.Name = 0 then lexC strC x.Args y.Args else strC x.Name y.Name) else if x.At < y.At then -1 else 1 := by
  unfold stepC pairC intC
  simp only
  by_cases e : x.At = y.At
  · rw [if_pos e, if_pos rfl, if_pos e]
  · rw [if_neg e, if_neg e, if_neg (by split <;> decide)]
/- the models -/
theorem cmpCompare_eq (x y : ByteArray) : M_cmp_Compare_string x y = some (strC x y) := by
  have nn : ∀ z : ByteArray, M_cmp_isNaN_string z = some false := fun z => by rw [M_cmp_isNaN_string, beq_self_eq_true]; rfl
  rw [M_cmp_Compare_string, nn, nn, ob1_some, ob1_some, sel_ff, sel_ff, less_str, sel_dec, beq_bl]
  have h1 := strC_cmp.eq x y
  by_cases h : strC x y < 0
  · rw [if_pos h]
    unfold strC at h ⊢
    have key : ∀ a b, Lib.compareBytes a b < 0 → Lib.compareBytes a b = -1 := by
      intro a
      induction a with
      | nil => intro b; cases b <;> simp [Lib.compareBytes]
      | cons p a ih =>
        intro b
        cases b with
        | nil => simp [Lib.compareBytes]
        | cons q b =>
          rw [Lib.compareBytes]
          repeat' split
          · intro _; rfl
          · intro h; omega
          · exact ih b
    rw [key _ _ h]
  · rw [if_neg h, decide_eq_false h, Bool.false_or, sel_not, sel_dec]
    by_cases e : x = y
    · rw [if_pos e, h1.2 e]
    · rw [if_neg e]
      unfold strC at h ⊢
      have key : ∀ a b, ¬ Lib.compareBytes a b < 0 → a ≠ b → Lib.compareBytes a b = 1 := by
        intro a
        induction a with
        | nil => intro b; cases b <;> simp [Lib.compareBytes]
        | cons p a ih =>
          intro b
          cases b with
          | nil => simp [Lib.compareBytes]
          | cons q b =>
            rw [Lib.compareBytes]
            by_cases hp : p < q
            · rw [if_pos hp]; intro h; omega
            · rw [if_neg hp]
              by_cases hq : q < p
              · rw [if_pos hq]; intro _ _; rfl
              · rw [if_neg hq]
                have e : p = q := UInt8.le_antisymm (UInt8.not_lt.1 hq) (UInt8.not_lt.1 hp)
                intro h1 h2
                exact ih b h1 (fun e2 => h2 (by rw [e, e2]))
      rw [key _ _ h (fun e2 => e (bl_inj e2))]
/-- how the loop of slices.Compare ends -/
def lexP : List ByteArray → List ByteArray → Unit ⊕ Int
  | [], _ => .inl ()
  | _ :: _, [] => .inr 1
  | a :: r, b :: q => if strC a b = 0 then lexP r q else .inr (strC a b)
theorem lexP_loop (a b : List ByteArray) (ha : a.length < 9223372036854775807) : ∀ (k n : Nat), n ≤ a.length → n ≤ b.length → a.length < k + n → M_s_Compare_string_L1 a b k (n : Int) = some (lexP (a.drop n) (b.drop n))
  | 0, n, h1, _, h2 => by omega
  | k + 1, n, h1, h1', h2 => by
    rw [M_s_Compare_string_L1, sel_dec, List.length_map]
    by_cases hn : n < a.length
    · obtain ⟨x, hx, hd⟩ := drop_at hn
      rw [if_pos (by omega), ix_at hx, sel_dec, List.length_map, hd]
      by_cases hm : n < b.length
      · obtain ⟨y, hy, hd2⟩ := drop_at hm
        rw [if_neg (by omega), ix_at hy, cmpCompare_eq, ob1_some, bne, sel_not, beq_int, sel_dec, w64s (by omega), lexP_loop a b ha k (n + 1) hn hm (by omega), hd2, lexP]
        split
        · rfl
        · rfl
      · rw [if_pos (by omega), List.drop_eq_nil_of_le (show b.length ≤ n by omega)]
        rfl
    · rw [if_neg (by omega), List.drop_eq_nil_of_le (by omega)]
      rfl
theorem lexP_end : ∀ (a b : List ByteArray), osum (fun _ => if (a.length : Int) < (b.length : Int) then some (-1) else some 0) (fun r => some r) (lexP a b) = some (lexC strC a b)
  | [], [] => rfl
  | [], _ :: _ => by rw [lexP, osum_inl, lexC, if_pos (by simp)]
  | _ :: _, [] => rfl
  | x :: a, y :: b => by
    have ih := lexP_end a b
    rw [lexP, lexC]
    by_cases h : strC x y = 0
    · rw [if_pos h, if_pos h, ← ih]
      congr 1
      funext _
      simp
    · rw [if_neg h, if_neg h]
      rfl
theorem slCompare_eq (a b : List ByteArray) (ha : a.length < 9223372036854775807) : M_s_Compare_string a b = some (lexC strC a b) := by
  rw [M_s_Compare_string, List.length_map, List.length_map, Int.toNat_natCast, show (0 : Int) = ((0 : Nat) : Int) from rfl, lexP_loop a b ha _ 0 (Nat.zero_le _) (Nat.zero_le _) (by omega), ob1_some, List.drop_zero, List.drop_zero, ← lexP_end]
  congr 1
  funext _
  rw [sel_dec]
  rfl
theorem sort1_eq (x y : GStep) (hx : x.Args.length < 9223372036854775807) : M_planfile_Sort_1 x y = some (stepC x y) := by
  rw [M_planfile_Sort_1, slCompare_eq _ _ hx, stepC_def, bne, sel_not, beq_int, sel_dec]
  by_cases e : x.At = y.At
  · rw [if_pos e, if_pos e, M_strings_Compare, ob1_some, bne, sel_not, beq_int, sel_dec]
    by_cases h : strC x.Name y.Name = 0
    · rw [if_pos h, if_pos (show Lib.compareBytes x.Name.data.toList y.Name.data.toList = 0 from h), ob1_some]
    · rw [if_neg h, if_neg (show ¬ Lib.compareBytes x.Name.data.toList y.Name.data.toList = 0 from h)]
      rfl
  · rw [if_neg e, if_neg e, sel_dec]
    split <;> rfl
/-- steps of a machine's size -/
def SmallS (l : List GStep) : Prop := l.length * 48 ≤ 140737488355328 ∧ ∀ x ∈ l, x.Args.length * 16 ≤ 140737488355328
/-- in order -/
def OrdS (l : List GStep) : Prop := l.Pairwise (fun x y => stepC x y ≤ 0)
theorem ord_unique {a b : List GStep} (ha : OrdS a) (hb : OrdS b) (h : a.Perm b) : a = b :=
  List.Perm.eq_of_pairwise (fun x y _ _ h1 h2 => stepC_cmp.le_asym h1 h2) ha hb h
theorem copy_loop (l : List GStep) (hl : SmallS l) : ∀ (k n : Nat), n ≤ l.length → l.length < k + n → M_planfile_Sort_L1 l k (n : Int) (l.take n) = some l
  | 0, n, h1, h2 => by omega
  | k + 1, n, h1, h2 => by
    have h3 := hl.1
    rw [M_planfile_Sort_L1, sel_dec, List.length_map]
    by_cases hn : n < l.length
    · obtain ⟨x, hx, hd⟩ := drop_at hn
      have h4 := hl.2 x (List.mem_of_getElem? hx)
      rw [if_pos (by omega), ix_at hx, M_cloneS, grd_t h4, ob1_some, List.length_take, grd_t (by omega), w64s (by omega)]
      have e : l.take n ++ [({ At := x.At, Name := x.Name, Args := x.Args } : GStep)] = l.take (n + 1) := by
        rw [List.take_add_one, hx]; rfl
      rw [e]
      exact copy_loop l hl k (n + 1) hn (by omega)
    · rw [if_neg (by omega), List.take_of_length_le (by omega)]
theorem gsort_eq (g : Nat) (l : List GStep) (hl : SmallS l) (hg : 2 * l.length + 4 ≤ g) : ∃ l', M_planfile_Sort g l = some l' ∧ l'.Perm l ∧ OrdS l' := by
  have h3 := hl.1
  let P : GStep → Prop := fun x => x.Args.length < 9223372036854775807
  have ok : Ok P stepC M_planfile_Sort_1 := fun x y hx _ => sort1_eq x y hx
  have hP : All P l.length (fun k => l.getD k step0) := fun k hk => by
    show (l.getD k step0).Args.length < _
    rw [List.getD_eq_getElem?_getD, List.getElem?_eq_getElem hk]
    have := hl.2 _ (List.getElem_mem hk)
    simp only [Option.getD_some]
    omega
  obtain ⟨f', q1, q2, q3⟩ := stable_eq stepC_cmp.ord (by omega) ok g hg (fun k => l.getD k step0) hP
  rw [← lof_of] at q1
  refine ⟨lof l.length f', ?_, ?_, ?_⟩
  · have := copy_loop l hl (l.length + 1) 0 (Nat.zero_le _) (by omega)
    rw [M_planfile_Sort, List.length_map, Int.toNat_natCast, show (0 : Int) = ((0 : Nat) : Int) from rfl, show ([] : List GStep) = l.take 0 from rfl, this, ob1_some, q1, ob1_some, lof_len, grd_t rfl, grd_t (by omega)]
  · have := lof_perm q2
    rwa [← lof_of] at this
  · unfold OrdS lof
    rw [List.pairwise_map]
    refine List.Pairwise.imp_of_mem ?_ (List.pairwise_lt_range (n := l.length))
    intro i j hi hj hij
    have := q3 i j (Nat.zero_le _) hij (List.mem_range.1 hj)
    unfold leB ltc at this
    have h2 := of_decide_eq_false this
    have h3 := stepC_cmp.anti (f' j) (f' i)
    omega
/-- long answers -/
theorem longL1 (y : GStep) (hy : y.Args.length < 9223372036854775807) : ∀ (k n : Nat) (v : Int), n ≤ y.Args.length → y.Args.length < k + n → ∃ r, M_l13_long_L1 y k v (n : Int) = some r
  | 0, n, v, h1, h2 => by omega
  | k + 1, n, v, h1, h2 => by
    rw [M_l13_long_L1, sel_dec, List.length_map]
    by_cases hn : n < y.Args.length
    · obtain ⟨x, hx, _⟩ := drop_at hn
      rw [if_pos (by omega), ix_at hx, w64s (by omega)]
      exact longL1 y hy k (n + 1) _ hn (by omega)
    · rw [if_neg (by omega)]
      exact ⟨_, rfl⟩
theorem longL2 (l : List GStep) (hl : SmallS l) : ∀ (k n : Nat) (v : Int), n ≤ l.length → l.length < k + n → ∃ r, M_l13_long_L2 l k v (n : Int) = some r
  | 0, n, v, h1, h2 => by omega
  | k + 1, n, v, h1, h2 => by
    have h3 := hl.1
    rw [M_l13_long_L2, sel_dec, List.length_map]
    by_cases hn : n < l.length
    · obtain ⟨x, hx, _⟩ := drop_at hn
      have h4 := hl.2 x (List.mem_of_getElem? hx)
      obtain ⟨r, hr⟩ := longL1 x (by omega) (x.Args.length + 1) 0 (IntKind.i64.wrap (v + IntKind.i64.wrap ((x.Name.size : Int) + ((x.Args.map cS).length : Int)))) (Nat.zero_le _) (by omega)
      have hr' : M_l13_long_L1 x ((((x.Args.map cS).length : Int)).toNat + 1) (IntKind.i64.wrap (v + IntKind.i64.wrap ((x.Name.size : Int) + ((x.Args.map cS).length : Int)))) 0 = some r := by
        rw [← hr, List.length_map, Int.toNat_natCast]; rfl
      rw [if_pos (by omega), ix_at hx, hr', ob1_some, w64s (by omega)]
      exact longL2 l hl k (n + 1) r hn (by omega)
    · rw [if_neg (by omega)]
      exact ⟨_, rfl⟩
theorem long_some (l : List GStep) (hl : SmallS l) : ∃ b, M_l13_long l = some b := by
  rw [M_l13_long, List.length_map, Int.toNat_natCast]
  exact longL2 l hl (l.length + 1) 0 _ (Nat.zero_le _) (by omega)
theorem SmallS.perm {a b : List GStep} (h : SmallS b) (p : a.Perm b) : SmallS a := ⟨by rw [p.length_eq]; exact h.1, fun x hx => h.2 x (p.mem_iff.1 hx)⟩
theorem same_self (l : List GStep) (hl : SmallS l) : M_l13_Same l l = some true := by
  have h3 := hl.1
  rw [same_eq l l (by omega) (fun x hx => by have := hl.2 x hx; omega), decide_eq_true rfl]
end Go.Proofs.YtljekaadbabhkaaDoor.Am
/- Opening arguments: slices of numbers, of facts, of nogoods, a certificate. -/
namespace Go.Proofs.YtljekaadbabhkaaDoor
open Go.RowKit Go.ChangeShapes Go.WideShapes Go.Deep Go.Joins

section
variable {H : Type} {enc : TypeId × Value → H} {P : Program} {w : World} {base : Nat} {spare : Nat → Bool} {held : Bool}

/-- within the form's reach -/
def Sized (P : Program) (t : TypeId) (d : DataW H) : Prop := ∀ n ∈ d.weights P t, n ≤ reachBytes
theorem sized_arg {ts : List TypeId} {ds : List (DataW H)} (h : (DataW.weightsEach P ts ds).all (· ≤ reachBytes) = true) {j : Nat} {t : TypeId} {d : DataW H} (ht : ts[j]? = some t) (hd : ds[j]? = some d) : Sized P t d :=
  fun n hn => of_decide_eq_true (List.all_eq_true.1 h n (DataW.weights_mem_each ht hd n hn))
theorem sized_field {t : TypeId} {fs : Array Field} {parts : List (DataW H)} (h : Sized P t (.agg parts)) (hu : P.underlying t = some (.struct fs)) {j : Nat} {f : Field} {d : DataW H} (hf : fs[j]? = some f) (hd : parts[j]? = some d) : Sized P f.type d :=
  fun n hn => h n (by
    simp only [DataW.weights, hu]
    exact DataW.weights_mem_each (j := j) (by simp [List.getElem?_map, hf]) hd n hn)
theorem weightsAll_mem {e : TypeId} : ∀ {l : List (DataW H)} {d : DataW H}, d ∈ l → ∀ n ∈ d.weights P e, n ∈ DataW.weightsAll P e l
  | x :: l, d, hd, n, hn => by
    simp only [DataW.weightsAll, List.mem_append]
    rcases List.mem_cons.1 hd with rfl | h
    · exact Or.inl hn
    · exact Or.inr (weightsAll_mem h n hn)
theorem sized_elem {t e : TypeId} {elems sp : List (DataW H)} (h : Sized P t (.slice elems sp)) (hu : P.underlying t = some (.slice e)) {d : DataW H} (hd : d ∈ elems) : Sized P e d :=
  fun n hn => h n (by
    simp only [DataW.weights, hu, List.mem_cons, List.mem_append]
    exact Or.inr (Or.inl (weightsAll_mem hd n hn)))
theorem sized_len {t e : TypeId} {elems sp : List (DataW H)} (h : Sized P t (.slice elems sp)) (hu : P.underlying t = some (.slice e)) : elems.length * P.bytesOf e ≤ 140737488355328 := by
  have h1 := h ((elems.length + sp.length) * P.bytesOf e) (by simp [DataW.weights, hu])
  have h2 : elems.length * P.bytesOf e ≤ (elems.length + sp.length) * P.bytesOf e := Nat.mul_le_mul_right _ (by omega)
  have h3 : reachBytes ≤ 140737488355328 := by decide
  omega

end

theorem spot_of_cell {w : World} {p : Addr} {v : Value} (h : w.cell? p = some v) : p.spot = none := by
  unfold World.cell? at h
  split at h
  · split at h
    · cases h
    · rename_i hs; simpa using hs
  · cases h
theorem addr_of_cell {w : World} {a : Addr} {k : Nat} {v : Value} (h0 : ∃ u, w.cell? (a.add 0) = some u) (h : w.cell? (a.add k) = some v) : a = ⟨a.block, a.off, none⟩ ∧ w.cell? ⟨a.block, a.off + k, none⟩ = some v := by
  obtain ⟨u, hu⟩ := h0
  have hs := spot_of_cell hu
  obtain ⟨b, off, sp⟩ := a
  simp [Addr.add] at hs
  subst hs
  refine ⟨rfl, ?_⟩
  rw [← h]
  congr 1
  unfold Addr.add
  split
  · subst k; rfl
  · rfl

theorem list_of {α : Type} (n : Nat) (R : Nat → α → Prop) (h : ∀ i, i < n → ∃ x, R i x) : ∃ l : List α, l.length = n ∧ ∀ k x, l[k]? = some x → R k x := by
  induction n with
  | zero => exact ⟨[], rfl, fun k x hx => by simp at hx⟩
  | succ n ih =>
    obtain ⟨l, hl, hr⟩ := ih (fun i hi => h i (by omega))
    obtain ⟨x, hx⟩ := h n (by omega)
    refine ⟨l ++ [x], by simp [hl], fun k y hy => ?_⟩
    by_cases hk : k < n
    · rw [List.getElem?_append_left (by omega)] at hy
      exact hr k y hy
    · rw [List.getElem?_append_right (by omega)] at hy
      have hk' : k - l.length = 0 := by
        have := (List.getElem?_eq_some_iff.1 hy).1
        simp at this
        omega
      rw [hk'] at hy
      simp at hy
      subst hy
      obtain rfl : k = n := by omega
      exact hx

end Go.Proofs.YtljekaadbabhkaaDoor
/- Opening arguments for the abstract machine: readers that compose. -/
namespace Go.Proofs.YtljekaadbabhkaaDoor.Am
open Go.RowKit Go.ChangeShapes Go.WideShapes Go.Deep Go.Joins

/-- nothing is owned at the start -/
abbrev mZ : MM := mO (fun _ => False)
theorem noZ (b : Nat) : ¬ Owned nov mZ b := fun h => owned_nov.1 h

section
variable {H : Type} {enc : TypeId × Value → H} {P : Program} {w : World} {base : Nat} {spare : Nat → Bool} {held : Bool}
/-- cells that stand for the values -/
def CellsRv (w : World) (es : List AV) (cs : List Value) : Prop := es.length = cs.length ∧ (∀ (j : Nat) (y : AV) (u : Value), es[j]? = some y → cs[j]? = some u → RV w nov mZ y u ∧ u.oneCell' = true) ∧ ∀ y ∈ es, Fr y
/-- data of type t read as an α -/
def Opens (enc : TypeId × Value → H) (P : Program) (w : World) (base : Nat) (spare : Nat → Bool) (held : Bool) (t : TypeId) {α : Type} (en : α → List AV) (R : α → Prop) : Prop :=
  ∀ (fuel : Nat) (cs : List Value) (x : DataW H × List MemPlace), DataW.trod enc P w base spare held fuel t cs = some x → Sized P t x.1 → ∃ a, R a ∧ CellsRv w (en a) cs

theorem cells_one1 {y : AV} {u : Value} (h : RV w nov mZ y u) (h1 : u.oneCell' = true) (hf : Fr y) : CellsRv w [y] [u] := by
  refine ⟨rfl, fun j z v hz hv => ?_, fun z hz => by simp at hz; subst hz; exact hf⟩
  cases j with
  | zero => simp at hz hv; subst hz hv; exact ⟨h, h1⟩
  | succ j => simp at hz
theorem opens_int {t : TypeId} {k : IntKind} (ht : P.underlying t = some (.int k)) : Opens enc P w base spare held t (fun z : Int => [.c (.int k z)]) (fun z => (Lit.int k z).wf = true) := by
  intro fuel cs x h _
  obtain ⟨z, rfl, _, wz⟩ := DataW.trod_int ht h
  exact ⟨z, wz, cells_one1 (.c _) rfl (.c _)⟩
theorem opens_slice {t e : TypeId} {α : Type} {en : α → List AV} {R : α → Prop} {sz by_ : Nat} (ht : P.underlying t = some (.slice e)) (hc : P.cellsOf e = sz) (hb : P.bytesOf e = by_) (hby : 0 < by_) (hsz : 0 < sz) (he : Opens enc P w base spare held e en R) :
    Opens enc P w base spare held t (fun l : List α => [.sl sz (l.map en)]) (fun l => l.length * by_ ≤ 140737488355328 ∧ ∀ x ∈ l, R x) := by
  intro fuel cs x h hs
  rcases open_slice ht h with ⟨rfl, _⟩ | ⟨a, len, cap, m, n, D, Pl, rfl, _, hl, hm, hmm, rfl, hi⟩
  · refine ⟨[], ⟨by simp, by simp⟩, cells_one1 ?_ rfl (.sl (fun e he => by cases he))⟩
    exact RV.sl (l := []) (b := 0) (off := 0) (f := fun _ _ => undef) (fun h => absurd rfl h) (Nat.zero_le _) (by simp) (fun k e h => by simp at h) (fun k j e x h => by simp at h) (fun k j e x h => by simp at h) (fun e he => by cases he)
  · have hlen := sized_len hs ht
    rw [hb] at hlen
    simp only [List.length_map, List.length_range] at hlen
    have hml : len ≤ m := by rw [hmm]; split <;> omega
    have hcell : ∀ i, i < len → ∃ z : α, R z ∧ ∃ cs', CellsRv w (en z) cs' ∧ cs'.length = sz ∧ ∀ j, j < sz → w.cell? (a.add (i * sz + j)) = cs'[j]? := by
      intro i hi'
      obtain ⟨cs', hcc, ht'⟩ := hi i (by omega)
      rw [hc] at hcc
      obtain ⟨z, hz, hcr⟩ := he n cs' _ ht' (sized_elem hs ht (List.mem_map.2 ⟨i, by simpa using hi', rfl⟩))
      obtain ⟨_, hcl', hat⟩ := World.cells?_some hcc
      exact ⟨z, hz, cs', hcr, hcl', fun j hj => by rw [← hat j hj, Go.Deep.add_add]⟩
    obtain ⟨l, hl', hat⟩ := list_of len _ hcell
    have hR : ∀ x ∈ l, R x := fun x hx => by
      obtain ⟨k, hk⟩ := List.getElem?_of_mem hx
      exact (hat k x hk).1
    have hfr : FrL (l.map en) := by
      intro e he
      obtain ⟨x, hx, rfl⟩ := List.mem_map.1 he
      obtain ⟨k, hk⟩ := List.getElem?_of_mem hx
      obtain ⟨_, cs', hcr, _⟩ := hat k x hk
      exact hcr.2.2
    refine ⟨l, ⟨by rw [hl']; exact hlen, hR⟩, cells_one1 ?_ rfl (.sl hfr)⟩
    have key : ∀ (k j : Nat) (e : List AV) (y : AV), (l.map en)[k]? = some e → e[j]? = some y → e.length = sz ∧ ∃ u, w.cell? ⟨a.block, a.off + (k * sz + j), none⟩ = some u ∧ u.oneCell' = true ∧ RV w nov mZ y u ∧ a = ⟨a.block, a.off, none⟩ ∧ a.block < w.heap.size := by
      intro k j e y hk hj
      rw [List.getElem?_map] at hk
      cases hx : l[k]? with
      | none => rw [hx] at hk; cases hk
      | some z =>
        rw [hx] at hk
        simp at hk
        subst hk
        obtain ⟨_, cs', ⟨c1, c2, _⟩, c4, c5⟩ := hat k z hx
        have hjl : j < sz := by rw [← c4, ← c1]; exact (List.getElem?_eq_some_iff.1 hj).1
        have hcj := c5 j hjl
        have hget : cs'[j]? = some (cs'[j]'(by omega)) := List.getElem?_eq_getElem _
        rw [hget] at hcj
        obtain ⟨r1, r2⟩ := c2 j y _ hj hget
        have h0 : 0 < len := by have := (List.getElem?_eq_some_iff.1 hx).1; omega
        obtain ⟨_, _, cs0, ⟨_, _, _⟩, d4, d5⟩ := hcell 0 h0
        have hz0 := d5 0 hsz
        rw [List.getElem?_eq_getElem (by omega)] at hz0
        obtain ⟨e1, e2⟩ := addr_of_cell ⟨_, by simpa using hz0⟩ hcj
        exact ⟨by rw [c1, c4], _, e2, r2, r1, e1, lt_of_cell (p := ⟨a.block, a.off + (k * sz + j), none⟩) e2⟩
    have hlen2 : (l.map en).length = len := by simp [hl']
    have := RV.sl (w := w) (vs := nov) (m := mZ) (sz := sz) (l := l.map en) (A := some a) (cap := cap) (b := a.block) (off := a.off) (f := fun k j => (w.cell? ⟨a.block, a.off + (k * sz + j), none⟩).getD undef)
      (fun hne => ?_) (by omega) (by rw [hlen2]; exact Nat.le_trans (Nat.le_mul_of_pos_right _ hby) hlen) (fun k e hk => ?_) (fun k j e y hk hj => ?_) (fun k j e y hk hj => ?_) hfr
    · rw [hlen2] at this
      exact this
    · have h0 : 0 < (l.map en).length := List.length_pos_iff.2 hne
      have hk := List.getElem?_eq_getElem h0
      obtain ⟨x0, hx0, hx0'⟩ : ∃ x0, l[0]? = some x0 ∧ (l.map en)[0] = en x0 := by
        have h1 : 0 < l.length := by simpa using h0
        exact ⟨l[0], List.getElem?_eq_getElem h1, by simp⟩
      obtain ⟨_, cs', ⟨c1, _, _⟩, c4, _⟩ := hat 0 x0 hx0
      have hel : 0 < ((l.map en)[0]).length := by rw [hx0', c1, c4]; exact hsz
      obtain ⟨_, _, _, _, _, q1, q2⟩ := key 0 0 _ _ hk (List.getElem?_eq_getElem hel)
      exact ⟨by rw [← q1], noZ _, q2⟩
    · rw [List.getElem?_map] at hk
      cases hx : l[k]? with
      | none => rw [hx] at hk; cases hk
      | some z =>
        rw [hx] at hk
        simp at hk
        subst hk
        obtain ⟨_, cs', ⟨c1, _, _⟩, c4, _⟩ := hat k z hx
        rw [c1, c4]
    · obtain ⟨_, u, q1, q2, _⟩ := key k j e y hk hj
      rw [q1]
      exact ⟨rfl, q2⟩
    · obtain ⟨_, u, q1, _, q3, _⟩ := key k j e y hk hj
      rw [q1]
      exact q3

/-- fields from one on -/
def OpensF (enc : TypeId × Value → H) (P : Program) (w : World) (base : Nat) (spare : Nat → Bool) (held : Bool) (fs : List Field) (off tot : Nat) {α : Type} (en : α → List AV) (R : α → Prop) : Prop :=
  ∀ (fuel : Nat) (cs : List Value) (xs : List (DataW H × List MemPlace)), cs.length = tot → xs.length = fs.length → (∀ (i : Nat) (f : Field), fs[i]? = some f → DataW.trod enc P w base spare held fuel f.type ((cs.drop f.offset).take (P.cellsOf f.type)) = xs[i]?) →
    (∀ (i : Nat) (f : Field) (x : DataW H × List MemPlace), fs[i]? = some f → xs[i]? = some x → Sized P f.type x.1) → ∃ a, R a ∧ CellsRv w (en a) (cs.drop off)
theorem cells_append {a b : List AV} {xs ys : List Value} (h1 : CellsRv w a xs) (h2 : CellsRv w b ys) : CellsRv w (a ++ b) (xs ++ ys) := by
  refine ⟨by rw [List.length_append, List.length_append, h1.1, h2.1], fun j y u hy hu => ?_, fun y hy => ?_⟩
  · rcases Nat.lt_or_ge j a.length with hlt | hge
    · rw [List.getElem?_append_left hlt] at hy
      rw [List.getElem?_append_left (by rw [← h1.1]; exact hlt)] at hu
      exact h1.2.1 j y u hy hu
    · rw [List.getElem?_append_right hge] at hy
      rw [List.getElem?_append_right (by rw [← h1.1]; exact hge)] at hu
      rw [h1.1] at hy
      exact h2.2.1 _ y u hy hu
  · rcases List.mem_append.1 hy with h | h
    · exact h1.2.2 y h
    · exact h2.2.2 y h
theorem opensF_last {f : Field} {off tot : Nat} {α : Type} {en : α → List AV} {R : α → Prop} (ho : f.offset = off) (htot : off + P.cellsOf f.type = tot) (h : Opens enc P w base spare held f.type en R) : OpensF enc P w base spare held [f] off tot en R := by
  intro fuel cs xs hcl hx ht hs
  obtain ⟨x, rfl⟩ := List.length_eq_one_iff.1 hx
  have h1 := ht 0 f rfl
  obtain ⟨a, ha, hc⟩ := h fuel _ x h1 (hs 0 f x rfl rfl)
  refine ⟨a, ha, ?_⟩
  rw [ho, List.take_of_length_le (by simp; omega)] at hc
  exact hc
theorem opensF_cons {f : Field} {fs : List Field} {off off' tot : Nat} {α β : Type} {en : α → List AV} {R : α → Prop} {en' : β → List AV} {R' : β → Prop} (ho : f.offset = off) (hoff : off + P.cellsOf f.type = off') (h : Opens enc P w base spare held f.type en R) (h' : OpensF enc P w base spare held fs off' tot en' R') :
    OpensF enc P w base spare held (f :: fs) off tot (fun p : α × β => en p.1 ++ en' p.2) (fun p => R p.1 ∧ R' p.2) := by
  intro fuel cs xs hcl hx ht hs
  cases xs with
  | nil => simp at hx
  | cons x xs =>
    obtain ⟨a, ha, hc⟩ := h fuel _ x (ht 0 f rfl) (hs 0 f x rfl rfl)
    obtain ⟨b, hb, hc'⟩ := h' fuel cs xs hcl (by simpa using hx) (fun i g hg => by simpa using ht (i + 1) g (by simpa using hg)) (fun i g y hg hy => hs (i + 1) g y (by simpa using hg) (by simpa using hy))
    refine ⟨(a, b), ⟨ha, hb⟩, ?_⟩
    rw [ho] at hc
    have : cs.drop off = (cs.drop off).take (P.cellsOf f.type) ++ cs.drop off' := by
      rw [← hoff, ← List.drop_drop, List.take_append_drop]
    rw [this]
    exact cells_append hc hc'
theorem opens_struct {t : TypeId} {fs : Array Field} {α : Type} {en : α → List AV} {R : α → Prop} (ht : P.underlying t = some (.struct fs)) (h : OpensF enc P w base spare held fs.toList 0 (P.cellsOf t) en R) : Opens enc P w base spare held t en R := by
  intro fuel cs x hx hs
  obtain ⟨xs, n, _, rfl, hcl, hxl, hf⟩ := DataW.trod_struct ht hx
  obtain ⟨a, ha, hc⟩ := h n cs xs hcl (by simpa using hxl) (fun i f hi => hf i f (by simpa using hi)) (fun i f y hi hy => sized_field hs ht (j := i) (by simpa using hi) (by simp [List.getElem?_map, hy]))
  exact ⟨a, ha, by simpa using hc⟩

theorem one_rv {y : AV} {u : Value} (h : CellsRv w [y] [u]) : RV w nov mZ y u := (h.2.1 0 y u rfl rfl).1
end
end Go.Proofs.YtljekaadbabhkaaDoor.Am
/- From a walk to a law's row: the arguments read behind the call as before, the result is true. -/
namespace Go.Proofs.YtljekaadbabhkaaDoor
open Go.RowKit Go.WideShapes Go.ChangeShapes Go.ChangeAt
section
variable {H : Type} {enc : TypeId × Value → H} {P : Program}
theorem post_of_below {f : Func} {s : ChangeSpec} {apart fresh handsOn again : Bool} {W W' : World} {args : Array Value} {v : Value} {ds gs : List (DataW H)} {before pa pv : List MemPlace}
    (hW : DataW.Whole enc P f.params.toList s.vars apart W args.toList ds gs before)
    (hres : ∀ (b : Nat) (sp : Nat → Bool) (hd : Bool), DataW.TrodAll enc P W' b sp hd f.resultTypes.toList (v.resultList f.resultTypes.size) (s.fn H (ds ++ gs)).results [])
    (hargs : ∀ sp : Nat → Bool, (∀ p ∈ before, sp p.block = true) → DataW.TrodAll enc P W' 0 sp true f.params.toList args.toList (s.fn H (ds ++ gs)).args pa)
    (hvars : ∀ sp : Nat → Bool, (∀ p ∈ before, sp p.block = true) → DataW.TrodVars enc P W' sp s.vars (s.fn H (ds ++ gs)).vars pv)
    (hps : before = pa ++ pv) (hb : Below W.heap.size W W')
    (hok : ∀ (j : Nat) (t : TypeId) (r : Value), f.resultTypes[j]? = some t → (v.resultList f.resultTypes.size)[j]? = some r → Value.okWide P W' .any 0 t r) :
    s.post enc P f apart fresh handsOn again W args v W' := by
  have hlt : ∀ p ∈ before, p.block < W.heap.size := fun p hp => hW.lt p hp
  have hold : ∀ p ∈ before, (fun b => decide (b < W.heap.size)) p.block = true := fun p hp => by simpa using hlt p hp
  refine ⟨ds, gs, before, [], pa, pv, hW, hres _ _ _, hargs _ hold, hvars _ hold, World.keptBut_mono (fun p hp => ⟨hp, ?_⟩) (hb.frame (· ∈ before)), fun _ => ?_⟩
  · rw [hps, List.mem_append] at hp
    exact Or.inr hp
  · obtain ⟨_, _, _, _, _, hz, hn⟩ := hW
    refine ⟨hok, _, _, ([] ++ pa) ++ pv, ⟨[] ++ pa, pv, trodAll_append (hargs _ (fun _ _ => rfl)) (hres _ _ _), hvars _ (fun _ _ => rfl), rfl, ?_, ?_⟩, ?_⟩
    · intro b off hp
      have hin : MemPlace.cell b off ∈ before := by rw [hps]; simpa using hp
      rw [hb.frozen (hlt _ hin)]
      exact hz b off hin
    · intro ha
      have := hn ha
      rw [hps] at this
      simpa using this
    · intro p hp _
      rw [hps]
      simpa using hp

theorem trodAll_keep (hl : laidOutB P = true) {W W' : World} (hb : Below W.heap.size W W') (sp : Nat → Bool) (ts : List TypeId) : ∀ (vs : List Value) (ds : List (DataW H)) (ps : List MemPlace), (∀ t ∈ ts, P.readableRec t = true ∧ t < P.types.size) →
    DataW.TrodAll enc P W 0 (fun _ => true) true ts vs ds ps → (∀ x ∈ ps, x.block < W.heap.size) → (∀ x ∈ ps, sp x.block = true) → DataW.TrodAll enc P W' 0 sp true ts vs ds ps := by
  induction ts with
  | nil =>
    intro vs ds ps _ h _ _
    obtain ⟨rfl, rfl, rfl⟩ := trodAll_nil h
    exact trodAll_mk0
  | cons t ts ih =>
    intro vs ds ps hts h hlt hsp
    obtain ⟨v0, vs0, d0, ds0, p0, q0, rfl, rfl, rfl, h0, r0⟩ := trodAll_cons h
    obtain ⟨hr, hrow⟩ := hts t (by simp)
    exact trodAll_cons_mk (WideElems.Trod_stays hl hr hrow h0 (fun x hx => hb.same (hlt x (by simp [hx]))) (fun x hx => hsp x (by simp [hx])))
      (ih _ _ _ (fun t ht => hts t (by simp [ht])) r0 (fun x hx => hlt x (by simp [hx])) (fun x hx => hsp x (by simp [hx])))

/-- A LAW: it returned true, nothing that was there has turned. -/
theorem law_post (hl : laidOutB P = true) {f : Func} {s : ChangeSpec} {T : TypeId} {W W' : World} {args : Array Value} {ds : List (DataW H)} {before : List MemPlace}
    (hvars : s.vars = []) (hrt : f.resultTypes = #[T]) (hT : P.underlying T = some .bool) (hts : f.params.toList.all (fun t => P.readableRec t && decide (t < P.types.size)) = true)
    (hW : DataW.Whole enc P f.params.toList s.vars false W args.toList ds [] before) (hA : DataW.TrodAll enc P W 0 (fun _ => true) true f.params.toList args.toList ds before)
    (e1 : (s.fn H (ds ++ [])).results = [.lit (.bool true)]) (e2 : (s.fn H (ds ++ [])).args = ds) (e3 : (s.fn H (ds ++ [])).vars = []) (hb : Below W.heap.size W W') :
    s.post enc P f false true false false W args (.bool true) W' := by
  have hlt : ∀ x ∈ before, x.block < W.heap.size := fun x hx => hW.lt x hx
  refine post_of_below (pa := before) (pv := []) hW ?_ ?_ ?_ (by simp) hb ?_
  · intro b sp hd
    rw [e1, hrt]
    exact trodAll_cons_mk (shut_bool hT true) trodAll_mk0
  · intro sp hsp
    rw [e2]
    exact trodAll_keep hl hb sp _ _ _ _ (fun t ht => by simpa using List.all_eq_true.1 hts t ht) hA hlt hsp
  · intro sp hsp
    rw [e3, hvars]
    rfl
  · exact ok_one hrt rfl (okWide_bool_mk hT true)
end
end Go.Proofs.YtljekaadbabhkaaDoor
/- Readers of steps. -/
namespace Go.Proofs.YtljekaadbabhkaaDoor.Am
open Go.RowKit Go.ChangeShapes Go.WideShapes Go.Deep Go.Joins
section
variable {H : Type} {enc : TypeId × Value → H} {w : World} {base : Nat} {spare : Nat → Bool} {held : Bool}
theorem opens_conv {P : Program} {t : TypeId} {α β : Type} {en : α → List AV} {en2 : β → List AV} {R : α → Prop} {R2 : β → Prop} (f : α → β) (h : Opens enc P w base spare held t en R) (he : ∀ a, en2 (f a) = en a) (hR : ∀ a, R a → R2 (f a)) : Opens enc P w base spare held t en2 R2 := by
  intro fuel cs x hx hs
  obtain ⟨a, ha, hc⟩ := h fuel cs x hx hs
  exact ⟨f a, hR a ha, by rw [he]; exact hc⟩
theorem opens_str2 {P : Program} {t : TypeId} (ht : P.underlying t = some .string) : Opens enc P w base spare held t (fun s : ByteArray => [.c (.string s)]) (fun s => s.size ≤ 140737488355328) := by
  intro fuel cs x h hsz
  obtain ⟨s, rfl, rfl, -⟩ := DataW.trod_string ht h
  refine ⟨s, ?_, cells_one1 (.c _) rfl (.c _)⟩
  have h1 : s.data.toList.length ≤ 140737488355328 := Nat.le_trans (hsz s.data.toList.length (List.mem_singleton.2 rfl)) (by decide)
  rw [Array.length_toList] at h1
  exact h1
abbrev StrsR (l : List ByteArray) : Prop := l.length * 16 ≤ 140737488355328 ∧ ∀ s ∈ l, s.size ≤ 140737488355328
abbrev StepR (x : GStep) : Prop := (Lit.int .i64 x.At).wf = true ∧ x.Name.size ≤ 140737488355328 ∧ StrsR x.Args
abbrev StepsR (l : List GStep) : Prop := l.length * 48 ≤ 140737488355328 ∧ ∀ x ∈ l, StepR x
set_option maxRecDepth 100000 in
theorem oStrs : Opens enc Tryd.prog w base spare held 35 (fun l : List ByteArray => [.sl 1 (l.map cS)]) StrsR :=
  opens_slice Tryd.underlying35 (by kernel_rfl) (by kernel_rfl) (by decide) (by decide) (opens_str2 Tryd.underlying9)
set_option maxRecDepth 100000 in
theorem oStep : Opens enc Tryd.prog w base spare held 37 cGStep StepR :=
  opens_conv (fun p : Int × (ByteArray × List ByteArray) => { At := p.1, Name := p.2.1, Args := p.2.2 : GStep })
    (opens_struct Tryd.underlying37 (opensF_cons (off' := 1) (en := fun z : Int => [AV.c (.int .i64 z)]) (R := fun z : Int => (Lit.int .i64 z).wf = true) (en' := fun p : ByteArray × List ByteArray => [AV.c (.string p.1)] ++ [AV.sl 1 (p.2.map cS)]) (R' := fun p : ByteArray × List ByteArray => p.1.size ≤ 140737488355328 ∧ StrsR p.2) rfl (by kernel_rfl) (opens_int Tryd.underlying3)
      (opensF_cons (off' := 2) (en := fun s : ByteArray => [AV.c (.string s)]) (R := fun s => s.size ≤ 140737488355328) (en' := fun l : List ByteArray => [AV.sl 1 (l.map cS)]) (R' := StrsR) rfl (by kernel_rfl) (opens_str2 Tryd.underlying9) (opensF_last rfl (by kernel_rfl) oStrs))))
    (fun _ => rfl) (fun _ h => h)
set_option maxRecDepth 100000 in
theorem oSteps : Opens enc Tryd.prog w base spare held 23 (fun l : List GStep => [.sl 3 (l.map cGStep)]) StepsR :=
  opens_slice Tryd.underlying23 (by kernel_rfl) (by kernel_rfl) (by decide) (by decide) oStep
/-- an argument of one cell -/
theorem arg_one {P : Program} {t : TypeId} {α : Type} {y : α → AV} {R : α → Prop} {v : Value} {d : DataW H} {p : List MemPlace} (hv : v.cells = #[v]) (ho : Opens enc P w base spare held t (fun a => [y a]) R) (h : DataW.Trod enc P w base spare held t v d p) (hs : Sized P t d) :
    ∃ a, R a ∧ RV w nov mZ (y a) v := by
  obtain ⟨fuel, hf⟩ := h
  rw [hv] at hf
  obtain ⟨a, ha, hc⟩ := ho fuel _ _ hf hs
  exact ⟨a, ha, one_rv hc⟩
end
theorem StepsR.small {l : List GStep} (h : StepsR l) : SmallS l := ⟨h.1, fun x hx => (h.2 x hx).2.2.1⟩
end Go.Proofs.YtljekaadbabhkaaDoor.Am
/- Models printed by my decompiler, and the proofs that the code computes them. -/
namespace Go.Proofs.YtljekaadbabhkaaDoor.Am
open Go.RowKit
theorem zb_XDOrd {P : Prop} (h : P := by repeat (first | exact BWL.nil | exact bwll_nil | exact bw_c | exact BW.sl | exact BW.nil | exact bwll_same rfl FrI.h | refine BWL.cons ?_ ?_ | refine bwll_cons ?_ ?_ | (refine bw_own3 rfl rfl rfl FrI.h ?_ ?_ ?_) | exact BW.fr FrV.h | exact BW.fr (by assumption) | refine bw_agg ?_ | refine bw_clo ?_ | refine bw_ptr rfl rfl rfl ?_ | (refine bw_own rfl rfl rfl ?_ FrI.h ?_ ?_) | assumption | omega | rfl | (rw [List.length_map, ← List.length_append]; assumption) | (refine bwll_same ?_ FrI.h; (simp [cGStep, cS, cF] <;> fail)) | (rw [List.map_set]; refine bwll_set (by first | rfl | omega | simp) ?_ ?_) | refine bwll_set (by first | rfl | omega | simp) ?_ ?_ | (rw [List.map_replicate]; refine bwll_rep ?_) | refine bwll_rep ?_ | (rw [List.map_append]; refine bwll_append ?_ ?_) | refine bwll_append ?_ ?_ | (simp [cGStep, cS, cF, take_len_map] <;> fail) | (rw [List.drop_zero, List.take_of_length_le] <;> first | rfl | (simp [cGStep, cS, cF] <;> fail)) | (simp; omega) | (simp only [List.length_map, List.drop_zero, List.length_cons, List.length_nil, Nat.zero_add, Nat.add_zero] at *; omega))) : P := h
theorem ci_XDOrd {p K : Prop} (k : K) (h : p := by first | rfl | exact ⟨rfl, rfl⟩ | exact BW.fr FrV.h | (refine BW.fr ?_; assumption) | (refine ⟨rfl, ?_⟩; (simp [cGStep, cS, cF, take_len_map]; done)) | (refine RowK.same ?_ FrI.h; first | rfl | (simp [cGStep, cS, cF, take_len_map]; done)) | (refine row_part1 ?_; (exact zb_XDOrd); done) | ((exact zb_XDOrd); done) | (simp [cGStep, cS, cF, take_len_map]; done)) : p ∧ K := ⟨h, k⟩
theorem ca_XDOrd {P : Prop} (h : P := by repeat (first | exact True.intro | refine ci_XDOrd ?_)) : P := h
theorem pr_XDOrd {p K : Prop} (k : K) (h : p := by first | assumption | exact Int.natCast_nonneg _ | exact Nat.le_refl _ | exact Nat.zero_le _ | omega | (simp; done) | (simp; omega)) : p ∧ K := ⟨h, k⟩
theorem pl_XDOrd {p K : Prop} (k : K) (h : p := by first | rfl | exact List.length_map _ | (simp; done) | (simp; omega)) : p ∧ K := ⟨h, k⟩
theorem pe_XDOrd {p K : Prop} (k : K) (h : p := by first | omega | (simp; omega) | (simp only [List.length_map, List.length_cons, List.length_nil, List.length_append]; omega) | (simp only [List.length_map, List.drop_zero, List.length_cons, List.length_nil, Nat.zero_add, Nat.add_zero] at *; omega)) : p ∧ K := ⟨h, k⟩
theorem dr_XDOrd {b : Bool} {p K : Prop} (k : K) (h : b = true → p := by intro h; first | (cases h; done) | exact ⟨by kernel_rfl, by kernel_rfl⟩) : (b = true → p) ∧ K := ⟨h, k⟩
theorem cl_XDOrd {C : Cx} {n : Nat} {o : Oper} {τ : Nat → AV} {η : Nat → Ent} {f : FuncId} {os : Array Operand} {ats : Array TypeId} {r : AV} {args : List AV} {K : Foot → Prop} (ho : o.op = .call ⟨.value (.func f), os, ats⟩) (hc : ACall C f args r) (k : K ⟨r, [], []⟩)
    (hd : InB n o.dst := by exact Nat.le_of_ble_eq_true rfl) (hargs : os.toList.map (evA τ) = args := by first | rfl | (simp [cGStep, cS, cF]; done) | (repeat (first | exact rfl | refine cons_eq ?_ ?_ | exact sl_dt rfl))) (hfr : frs args := by repeat (first | exact trivial | exact fr1_eA _ | exact fr0_eA _ | exact fr1_fr (by assumption) | exact FrV.h | refine And.intro ?_ ?_)) (hr : fr1 r := by repeat (first | exact trivial | exact fr1_eA _ | exact fr0_eA _ | exact fr1_fr (by assumption) | exact FrV.h | refine And.intro ?_ ?_)) : ∃ f : Foot, LF C n o τ η f ∧ K f := ⟨_, lf_call ho hd hargs hc hfr hr, k⟩
theorem clb_XDOrd {C : Cx} {n : Nat} {o : Oper} {τ : Nat → AV} {η : Nat → Ent} {f : FuncId} {os : Array Operand} {ats : Array TypeId} {r : AV} {xs ys : List AV} {K : Foot → Prop} (bs : List Nat) (ho : o.op = .call ⟨.value (.func f), os, ats⟩) (hargs : os.toList.map (evA τ) = xs) (hc : ACall C f ys r) (k : K ⟨r, [], bs⟩)
    (hd : InB n o.dst := by exact Nat.le_of_ble_eq_true rfl) (hb : BWL η (dropB η bs) xs ys := by exact zb_XDOrd) (hr : scal r := by repeat (first | exact trivial | exact scal0_eA _ | exact scal_eA _ | refine And.intro ?_ ?_)) : ∃ f : Foot, LF C n o τ η f ∧ K f := ⟨_, lf_callB bs ho hd hargs hb hc hr, k⟩
def M_l13_PlanfileOrders_L1 (a0 : List GStep) : Nat → Int → (List GStep) → Option (List GStep)
  | 0, _, _ => none
  | k27 + 1, v25, v26 =>
    sel (decide (v25 < ((a0.map cGStep).length : Int)))
     (ix a0 v25 (fun y28 =>
       grd ((0 + y28.Args.length) * 16 ≤ 140737488355328) (grd ((v26.length + 1) * 48 ≤ 140737488355328) (grd (y28.Args.length ≤ 140737488355328) (M_l13_PlanfileOrders_L1 a0 k27 (IntKind.i64.wrap (v25 + 1)) (v26 ++ [{ At := y28.At, Name := y28.Name, Args := y28.Args : GStep }]))))))
     (some v26)
def M_l13_PlanfileOrders_L2 (a0 : List GStep) (y589 : GStep) : Nat → Int → Int → Option (Int)
  | 0, _, _ => none
  | k611 + 1, v609, v610 =>
    sel (decide (v610 < ((a0.map cGStep).length : Int)))
     (ix a0 v610 (fun y612 =>
       ob1 (M_l13_Same [y612] [y589]) (fun z613 =>
        sel z613
         (M_l13_PlanfileOrders_L2 a0 y589 k611 (IntKind.i64.wrap (v609 + 1)) (IntKind.i64.wrap (v610 + 1)))
         (M_l13_PlanfileOrders_L2 a0 y589 k611 v609 (IntKind.i64.wrap (v610 + 1))))))
     (some v609)
def M_l13_PlanfileOrders_L3 (y589 : GStep) (z29 : List GStep) : Nat → Int → Int → Option (Int)
  | 0, _, _ => none
  | k635 + 1, v633, v634 =>
    sel (decide (v634 < ((z29.map cGStep).length : Int)))
     (ix z29 v634 (fun y636 =>
       ob1 (M_l13_Same [y636] [y589]) (fun z637 =>
        sel z637
         (M_l13_PlanfileOrders_L3 y589 z29 k635 (IntKind.i64.wrap (v633 + 1)) (IntKind.i64.wrap (v634 + 1)))
         (M_l13_PlanfileOrders_L3 y589 z29 k635 v633 (IntKind.i64.wrap (v634 + 1))))))
     (some v633)
def M_l13_PlanfileOrders_L4 (a0 : List GStep) (z29 : List GStep) : Nat → Int → Option (Unit ⊕ Bool)
  | 0, _ => none
  | k537 + 1, v536 =>
    sel (decide (v536 < ((a0.map cGStep).length : Int)))
     (ob1 (ix a0 v536 (fun y589 =>
        ob1 (M_l13_PlanfileOrders_L2 a0 y589 ((((a0.map cGStep).length : Int)).toNat + 1) 0 0 : Option (Int))
         (fun v601 => ob1 (M_l13_PlanfileOrders_L3 y589 z29 ((((z29.map cGStep).length : Int)).toNat + 1) 0 0 : Option (Int))
            (fun v625 => sel (v601 != v625)
               (some (.inr false))
               (some (.inl ()))))) : Option (Unit ⊕ Bool))
       (osum
       (fun _ => M_l13_PlanfileOrders_L4 a0 z29 k537 (IntKind.i64.wrap (v536 + 1)))
       (fun r587 => some (.inr r587))))
     (some (.inl ()))
def M_l13_PlanfileOrders_L5 (z29 : List GStep) : Nat → Int → Option (Unit ⊕ Bool)
  | 0, _ => none
  | k675 + 1, v674 =>
    sel (decide (v674 < ((z29.map cGStep).length : Int)))
     (ix z29 v674 (fun y676 =>
       ix z29 (IntKind.i64.wrap (v674 - 1)) (fun y677 =>
        sel (decide (y676.At < y677.At))
         (some (.inr false))
         (ix z29 v674 (fun y678 =>
           ix z29 (IntKind.i64.wrap (v674 - 1)) (fun y679 =>
            sel (y678.At == y679.At)
             (ix z29 v674 (fun y680 =>
               ix z29 (IntKind.i64.wrap (v674 - 1)) (fun y681 =>
                sel (Op.bytesLess y680.Name.toList y681.Name.toList)
                 (some (.inr false))
                 (M_l13_PlanfileOrders_L5 z29 k675 (IntKind.i64.wrap (v674 + 1))))))
             (M_l13_PlanfileOrders_L5 z29 k675 (IntKind.i64.wrap (v674 + 1)))))))))
     (some (.inl ()))
def M_l13_PlanfileOrders (g : Nat) (a0 : List GStep) : Option (Bool) :=
  ob1 (ob1 (M_l13_long a0) (fun z7 =>
    sel z7
     (ob1 (M_l13_awake) (fun z10 =>
       some (.inr z10)))
     (ob1 (M_l13_awake) (fun z8 =>
       sel (!z8)
        (ob1 (M_l13_awake) (fun z9 =>
          some (.inr z9)))
        (some (.inl ()))))) : Option (Unit ⊕ Bool))
   (osum
   (fun _ => ob1 (M_l13_PlanfileOrders_L1 a0 ((((a0.map cGStep).length : Int)).toNat + 1) 0 [] : Option (List GStep))
      (fun v19 => ob1 (M_planfile_Sort g a0) (fun z29 =>
         ob1 (M_l13_PlanfileOrders_L4 a0 z29 ((((a0.map cGStep).length : Int)).toNat + 1) 0 : Option (Unit ⊕ Bool))
          (osum
          (fun _ => ob1 (M_l13_PlanfileOrders_L5 z29 g 1 : Option (Unit ⊕ Bool))
             (osum
             (fun _ => sel (((z29.map cGStep).length : Int) == ((a0.map cGStep).length : Int))
                (grd (v19.length ≤ 140737488355328) (ob1 (M_l13_Same a0 v19) (fun z682 =>
                  sel z682
                   (ob1 (M_planfile_Sort g z29) (fun z683 =>
                     ob1 (M_l13_Same z683 z29) (fun z684 =>
                      some z684)))
                   (some false))))
                (some false))
             (fun r659 => some r659)))
          (fun r333 => some r333)))))
   (fun r5 => some r5))
set_option maxHeartbeats 16000000 in
set_option maxRecDepth 100000 in
theorem A_l13_PlanfileOrders (g : Nat) (a0 : List GStep) {r1 : Bool} (h : M_l13_PlanfileOrders g a0 = some r1) : ACall cx 5 [.sl 3 (a0.map cGStep)] (.c (.bool r1)) := by
  refine aOf Tryd.func5 rfl (by decide) rfl (Nat.le_of_ble_eq_true rfl) ?_; intro _; unfold M_l13_PlanfileOrders at h; refine aSq ?_; refine aRg ?_; intro _; refine dr_XDOrd ?_; obtain ⟨o1, h, hK2⟩ := ob1_ok h; refine awp_cut (α := Unit) (fun _ => mkS 144 [(0, .sl 3 (a0.map cGStep))] []) (fun v => o1 = (.inl v)) ?_ ?_
  · refine aSq ?_; refine aRg ?_; intro _; obtain ⟨z7, u3, h⟩ := ob1_ok h; refine cl_XDOrd rfl (A_l13_long a0 u3) ?_; intro _; refine spf h (fun c4 h => ?_) (fun c4 h => ?_)
    · intro _; obtain ⟨z8, u5, h⟩ := ob1_ok h; refine cl_XDOrd rfl (A_l13_awake u5) ?_; intro _; refine dr_XDOrd ?_; refine aCd ?_; intro _; refine spl h (fun c6 h => ?_) (fun c6 h => ?_)
      · refine aSq ?_; refine aRg ?_; intro _; obtain ⟨z9, u7, h⟩ := ob1_ok h; refine cl_XDOrd rfl (A_l13_awake u7) ?_; intro _; refine dr_XDOrd ?_; refine aRt ?_; have j8 := Option.some.inj h; subst j8; replace h := (osum_r hK2); intro _; obtain rfl := inj1 h; exact ca_XDOrd
      · refine aSk ?_; refine ⟨(), (Option.some.inj h).symm, ?_⟩; exact ca_XDOrd
    · intro _; refine dr_XDOrd ?_; refine aCd ?_; intro _; refine litT ?_; refine aSq ?_; refine aRg ?_; intro _; obtain ⟨z10, u9, h⟩ := ob1_ok h; refine cl_XDOrd rfl (A_l13_awake u9) ?_; intro _; refine dr_XDOrd ?_; refine aRt ?_; have j10 := Option.some.inj h; subst j10; replace h := (osum_r hK2); intro _; obtain rfl := inj1 h; exact ca_XDOrd
  · rintro _ ho; have ho := ho.symm; subst ho; intro _; replace h := (osum_l hK2); refine aSq ?_; refine aRg ?_; intro _; refine dr_XDOrd ?_; obtain ⟨o11, h, hK12⟩ := ob1_ok h; refine awp_cut (α := List GStep) (fun v19 => mkS 144 [(0, .sl 3 (a0.map cGStep)), (3, .own 40 0 0 v19.length)] [(40, ⟨37, 3, false, v19.map cGStep⟩)]) (fun v => o11 = v) ?_ ?_
    · refine aSq ?_; refine aRg ?_; intro _; refine dr_XDOrd ?_; refine aBk ?_; refine awp_loop (α := Nat × Int × (List GStep)) (fun x => mkS 144 [(0, .sl 3 (a0.map cGStep)), (3, .own 40 0 0 x.2.2.length), (23, .sl 3 (a0.map cGStep)), (24, .c (.int .i64 ((a0.map cGStep).length : Int))), (25, .c (.int .i64 x.2.1))] [(40, ⟨37, 3, false, x.2.2.map cGStep⟩)]) (fun x => M_l13_PlanfileOrders_L1 a0 x.1 x.2.1 x.2.2 = some o11) (fun x => x.1) ((((a0.map cGStep).length : Int)).toNat + 1, 0, []) h ?_ ?_
      · exact ca_XDOrd
      · intro x13 h; intro _; obtain ⟨k27, m14, h⟩ := succ_of (f := fun n => M_l13_PlanfileOrders_L1 a0 n x13.2.1 x13.2.2) rfl h; replace h : M_l13_PlanfileOrders_L1 a0 (k27 + 1) x13.2.1 x13.2.2 = some o11 := h; rw [M_l13_PlanfileOrders_L1] at h; refine aSq ?_; refine aRg ?_; intro _; refine dr_XDOrd ?_; refine aSq ?_; refine aCd ?_; intro _; refine spl h (fun c15 h => ?_) (fun c15 h => ?_)
        · refine aSk ?_; refine aSq ?_; refine aBk ?_; refine aSq ?_; refine aRg ?_; intro _; obtain ⟨y28, w16, q17, h⟩ := ix_ok h; refine Exists.intro (cGStep y28) (And.intro (map_at' w16) ?_); intro _; refine pr_XDOrd ?_; refine dr_XDOrd ?_; refine aRg ?_; intro _; obtain ⟨q18, h⟩ := grd_ok h; obtain ⟨q19, h⟩ := grd_ok h; refine pl_XDOrd ?_; refine And.intro (by first | with_reducible assumption | (show (0 + y28.Args.length) * 16 ≤ 140737488355328; with_reducible assumption) | omega | (simp; omega)) ?_; refine pe_XDOrd ?_; refine pl_XDOrd ?_; refine pl_XDOrd ?_; refine And.intro (by first | with_reducible assumption | (show (x13.2.2.length + 1) * 48 ≤ 140737488355328; with_reducible assumption) | omega | (simp; omega)) ?_; refine pe_XDOrd ?_; refine dr_XDOrd ?_; refine aRg ?_; intro _; refine dr_XDOrd ?_; obtain ⟨q20, h⟩ := grd_ok h; refine ⟨(k27, (IntKind.i64.wrap (x13.2.1 + 1)), (x13.2.2 ++ [{ At := y28.At, Name := y28.Name, Args := y28.Args : GStep }])), h, ltS m14, ?_⟩; exact ca_XDOrd
        · refine aEx ?_; refine ⟨x13.2.2, (Option.some.inj h).symm, ?_⟩; exact ca_XDOrd
    · rintro v19 ho; have ho := ho.symm; subst ho; intro _; replace h := hK12; refine aSq ?_; refine aRg ?_; intro _; obtain ⟨z29, u21, h⟩ := ob1_ok h; refine cl_XDOrd rfl (A_planfile_Sort g a0 u21) ?_; intro _; refine dr_XDOrd ?_; obtain ⟨o22, h, hK23⟩ := ob1_ok h; refine awp_cut (α := Unit) (fun _ => mkS 144 [(0, .sl 3 (a0.map cGStep)), (3, .own 40 0 0 v19.length), (6, .sl 3 (z29.map cGStep))] [(40, ⟨37, 3, false, v19.map cGStep⟩)]) (fun v => o22 = (.inl v)) ?_ ?_
      · refine aSq ?_; refine aRg ?_; intro _; refine dr_XDOrd ?_; refine aBk ?_; refine awp_loop (α := Nat × Int) (fun x => mkS 144 [(0, .sl 3 (a0.map cGStep)), (3, .own 40 0 0 v19.length), (6, .sl 3 (z29.map cGStep)), (44, .sl 3 (a0.map cGStep)), (45, .c (.int .i64 ((a0.map cGStep).length : Int))), (46, .c (.int .i64 x.2))] [(40, ⟨37, 3, false, v19.map cGStep⟩)]) (fun x => M_l13_PlanfileOrders_L4 a0 z29 x.1 x.2 = some o22) (fun x => x.1) ((((a0.map cGStep).length : Int)).toNat + 1, 0) h ?_ ?_
        · exact ca_XDOrd
        · intro x24 h; intro _; obtain ⟨k537, m25, h⟩ := succ_of (f := fun n => M_l13_PlanfileOrders_L4 a0 z29 n x24.2) rfl h; replace h : M_l13_PlanfileOrders_L4 a0 z29 (k537 + 1) x24.2 = some o22 := h; rw [M_l13_PlanfileOrders_L4] at h; refine aSq ?_; refine aRg ?_; intro _; refine dr_XDOrd ?_; refine aSq ?_; refine aCd ?_; intro _; refine spl h (fun c26 h => ?_) (fun c26 h => ?_)
          · refine aSk ?_; obtain ⟨o27, h, hK28⟩ := ob1_ok h; refine awp_cut (α := Unit) (fun _ => mkS 144 [(0, .sl 3 (a0.map cGStep)), (3, .own 40 0 0 v19.length), (6, .sl 3 (z29.map cGStep)), (44, .sl 3 (a0.map cGStep)), (45, .c (.int .i64 ((a0.map cGStep).length : Int))), (46, .c (.int .i64 x24.2))] [(40, ⟨37, 3, false, v19.map cGStep⟩)]) (fun v => o27 = (.inl v)) ?_ ?_
            · refine aBk ?_; refine aSq ?_; refine aRg ?_; intro _; obtain ⟨y589, w29, q30, h⟩ := ix_ok h; refine Exists.intro (cGStep y589) (And.intro (map_at' w29) ?_); intro _; refine pr_XDOrd ?_; refine dr_XDOrd ?_; refine aSq ?_; refine aRg ?_; intro _; refine dr_XDOrd ?_; obtain ⟨o31, h, hK32⟩ := ob1_ok h; refine awp_cut (α := Int) (fun v601 => mkS 144 [(0, .sl 3 (a0.map cGStep)), (3, .own 40 0 0 v19.length), (6, .sl 3 (z29.map cGStep)), (8, .ptr 8 0 0 0), (9, .c (.int .i64 v601)), (10, .c (.int .i64 0)), (44, .sl 3 (a0.map cGStep)), (45, .c (.int .i64 ((a0.map cGStep).length : Int))), (46, .c (.int .i64 x24.2))] [(8, ⟨37, 3, true, [[.c (.int .i64 y589.At), .c (.string y589.Name), .sl 1 (y589.Args.map cS)]]⟩), (40, ⟨37, 3, false, v19.map cGStep⟩)]) (fun v => o31 = v) ?_ ?_
              · refine aSq ?_; refine aRg ?_; intro _; refine dr_XDOrd ?_; refine aBk ?_; refine awp_loop (α := Nat × Int × Int) (fun x => mkS 144 [(0, .sl 3 (a0.map cGStep)), (3, .own 40 0 0 v19.length), (6, .sl 3 (z29.map cGStep)), (8, .ptr 8 0 0 0), (9, .c (.int .i64 x.2.1)), (10, .c (.int .i64 0)), (44, .sl 3 (a0.map cGStep)), (45, .c (.int .i64 ((a0.map cGStep).length : Int))), (46, .c (.int .i64 x24.2)), (50, .sl 3 (a0.map cGStep)), (51, .c (.int .i64 ((a0.map cGStep).length : Int))), (52, .c (.int .i64 x.2.2))] [(8, ⟨37, 3, true, [[.c (.int .i64 y589.At), .c (.string y589.Name), .sl 1 (y589.Args.map cS)]]⟩), (40, ⟨37, 3, false, v19.map cGStep⟩)]) (fun x => M_l13_PlanfileOrders_L2 a0 y589 x.1 x.2.1 x.2.2 = some o31) (fun x => x.1) ((((a0.map cGStep).length : Int)).toNat + 1, 0, 0) h ?_ ?_
                · exact ca_XDOrd
                · intro x33 h; intro _; obtain ⟨k611, m34, h⟩ := succ_of (f := fun n => M_l13_PlanfileOrders_L2 a0 y589 n x33.2.1 x33.2.2) rfl h; replace h : M_l13_PlanfileOrders_L2 a0 y589 (k611 + 1) x33.2.1 x33.2.2 = some o31 := h; rw [M_l13_PlanfileOrders_L2] at h; refine aSq ?_; refine aRg ?_; intro _; refine dr_XDOrd ?_; refine aSq ?_; refine aCd ?_; intro _; refine spl h (fun c35 h => ?_) (fun c35 h => ?_)
                  · refine aSk ?_; refine aSq ?_; refine aBk ?_; refine aSq ?_; refine aRg ?_; intro _; obtain ⟨y612, w36, q37, h⟩ := ix_ok h; refine Exists.intro (cGStep y612) (And.intro (map_at' w36) ?_); intro _; refine pr_XDOrd ?_; refine dr_XDOrd ?_; refine aSq ?_; refine aRg ?_; intro _; obtain ⟨z613, u38, h⟩ := ob1_ok h; refine clb_XDOrd [57, 59] rfl rfl (A_l13_Same [y612] [y589] u38) ?_; intro _; refine dr_XDOrd ?_; refine aCd ?_; intro _; refine spl h (fun c39 h => ?_) (fun c39 h => ?_)
                    · refine aRg ?_; intro _; refine dr_XDOrd ?_; refine aRg ?_; intro _; refine dr_XDOrd ?_; refine ⟨(k611, (IntKind.i64.wrap (x33.2.1 + 1)), (IntKind.i64.wrap (x33.2.2 + 1))), h, ltS m34, ?_⟩; exact ca_XDOrd
                    · refine aSk ?_; refine aRg ?_; intro _; refine dr_XDOrd ?_; refine ⟨(k611, x33.2.1, (IntKind.i64.wrap (x33.2.2 + 1))), h, ltS m34, ?_⟩; exact ca_XDOrd
                  · refine aEx ?_; refine ⟨x33.2.1, (Option.some.inj h).symm, ?_⟩; exact ca_XDOrd
              · rintro v601 ho; have ho := ho.symm; subst ho; intro _; replace h := hK32; obtain ⟨o40, h, hK41⟩ := ob1_ok h; refine awp_cut (α := Int) (fun v625 => mkS 144 [(0, .sl 3 (a0.map cGStep)), (3, .own 40 0 0 v19.length), (6, .sl 3 (z29.map cGStep)), (9, .c (.int .i64 v601)), (10, .c (.int .i64 v625)), (44, .sl 3 (a0.map cGStep)), (45, .c (.int .i64 ((a0.map cGStep).length : Int))), (46, .c (.int .i64 x24.2))] [(40, ⟨37, 3, false, v19.map cGStep⟩)]) (fun v => o40 = v) ?_ ?_
                · refine aSq ?_; refine aRg ?_; intro _; refine dr_XDOrd ?_; refine aBk ?_; refine awp_loop (α := Nat × Int × Int) (fun x => mkS 144 [(0, .sl 3 (a0.map cGStep)), (3, .own 40 0 0 v19.length), (6, .sl 3 (z29.map cGStep)), (8, .ptr 8 0 0 0), (9, .c (.int .i64 v601)), (10, .c (.int .i64 x.2.1)), (44, .sl 3 (a0.map cGStep)), (45, .c (.int .i64 ((a0.map cGStep).length : Int))), (46, .c (.int .i64 x24.2)), (64, .sl 3 (z29.map cGStep)), (65, .c (.int .i64 ((z29.map cGStep).length : Int))), (66, .c (.int .i64 x.2.2))] [(8, ⟨37, 3, true, [[.c (.int .i64 y589.At), .c (.string y589.Name), .sl 1 (y589.Args.map cS)]]⟩), (40, ⟨37, 3, false, v19.map cGStep⟩)]) (fun x => M_l13_PlanfileOrders_L3 y589 z29 x.1 x.2.1 x.2.2 = some o40) (fun x => x.1) ((((z29.map cGStep).length : Int)).toNat + 1, 0, 0) h ?_ ?_
                  · exact ca_XDOrd
                  · intro x42 h; intro _; obtain ⟨k635, m43, h⟩ := succ_of (f := fun n => M_l13_PlanfileOrders_L3 y589 z29 n x42.2.1 x42.2.2) rfl h; replace h : M_l13_PlanfileOrders_L3 y589 z29 (k635 + 1) x42.2.1 x42.2.2 = some o40 := h; rw [M_l13_PlanfileOrders_L3] at h; refine aSq ?_; refine aRg ?_; intro _; refine dr_XDOrd ?_; refine aSq ?_; refine aCd ?_; intro _; refine spl h (fun c44 h => ?_) (fun c44 h => ?_)
                    · refine aSk ?_; refine aSq ?_; refine aBk ?_; refine aSq ?_; refine aRg ?_; intro _; obtain ⟨y636, w45, q46, h⟩ := ix_ok h; refine Exists.intro (cGStep y636) (And.intro (map_at' w45) ?_); intro _; refine pr_XDOrd ?_; refine dr_XDOrd ?_; refine aSq ?_; refine aRg ?_; intro _; obtain ⟨z637, u47, h⟩ := ob1_ok h; refine clb_XDOrd [71, 73] rfl rfl (A_l13_Same [y636] [y589] u47) ?_; intro _; refine dr_XDOrd ?_; refine aCd ?_; intro _; refine spl h (fun c48 h => ?_) (fun c48 h => ?_)
                      · refine aRg ?_; intro _; refine dr_XDOrd ?_; refine aRg ?_; intro _; refine dr_XDOrd ?_; refine ⟨(k635, (IntKind.i64.wrap (x42.2.1 + 1)), (IntKind.i64.wrap (x42.2.2 + 1))), h, ltS m43, ?_⟩; exact ca_XDOrd
                      · refine aSk ?_; refine aRg ?_; intro _; refine dr_XDOrd ?_; refine ⟨(k635, x42.2.1, (IntKind.i64.wrap (x42.2.2 + 1))), h, ltS m43, ?_⟩; exact ca_XDOrd
                    · refine aEx ?_; refine ⟨x42.2.1, (Option.some.inj h).symm, ?_⟩; exact ca_XDOrd
                · rintro v625 ho; have ho := ho.symm; subst ho; intro _; replace h := hK41; refine aSq ?_; refine aRg ?_; intro _; refine dr_XDOrd ?_; refine aCd ?_; intro _; refine spl h (fun c49 h => ?_) (fun c49 h => ?_)
                  · refine aSq ?_; refine aRg ?_; intro _; refine dr_XDOrd ?_; refine aRt ?_; have j50 := Option.some.inj h; subst j50; replace h := (osum_r hK28); have j51 := Option.some.inj h; subst j51; replace h := (osum_r hK23); intro _; obtain rfl := inj1 h; exact ca_XDOrd
                  · refine aSk ?_; refine ⟨(), (Option.some.inj h).symm, ?_⟩; exact ca_XDOrd
            · rintro _ ho; have ho := ho.symm; subst ho; intro _; replace h := (osum_l hK28); refine aRg ?_; intro _; refine dr_XDOrd ?_; refine ⟨(k537, (IntKind.i64.wrap (x24.2 + 1))), h, ltS m25, ?_⟩; exact ca_XDOrd
          · refine aEx ?_; refine ⟨(), (Option.some.inj h).symm, ?_⟩; exact ca_XDOrd
      · rintro _ ho; have ho := ho.symm; subst ho; intro _; replace h := (osum_l hK23); obtain ⟨o52, h, hK53⟩ := ob1_ok h; refine awp_cut (α := Unit) (fun _ => mkS 144 [(0, .sl 3 (a0.map cGStep)), (3, .own 40 0 0 v19.length), (6, .sl 3 (z29.map cGStep))] [(40, ⟨37, 3, false, v19.map cGStep⟩)]) (fun v => o52 = (.inl v)) ?_ ?_
        · refine aSq ?_; refine aRg ?_; intro _; refine dr_XDOrd ?_; refine aBk ?_; refine awp_loop (α := Nat × Int) (fun x => mkS 144 [(0, .sl 3 (a0.map cGStep)), (3, .own 40 0 0 v19.length), (6, .sl 3 (z29.map cGStep)), (15, .c (.int .i64 x.2))] [(40, ⟨37, 3, false, v19.map cGStep⟩)]) (fun x => M_l13_PlanfileOrders_L5 z29 x.1 x.2 = some o52) (fun x => x.1) (g, 1) h ?_ ?_
          · exact ca_XDOrd
          · intro x54 h; intro _; obtain ⟨k675, m55, h⟩ := succ_of (f := fun n => M_l13_PlanfileOrders_L5 z29 n x54.2) rfl h; replace h : M_l13_PlanfileOrders_L5 z29 (k675 + 1) x54.2 = some o52 := h; rw [M_l13_PlanfileOrders_L5] at h; refine aSq ?_; refine aSq ?_; refine aRg ?_; intro _; refine dr_XDOrd ?_; refine aCd ?_; intro _; refine spl h (fun c56 h => ?_) (fun c56 h => ?_)
            · refine aSk ?_; refine aSq ?_; refine aBk ?_; refine aSq ?_; refine aRg ?_; intro _; obtain ⟨y676, w57, q58, h⟩ := ix_ok h; refine Exists.intro (cGStep y676) (And.intro (map_at' w57) ?_); intro _; obtain ⟨y677, w59, q60, h⟩ := ix_ok h; refine Exists.intro (cGStep y677) (And.intro (map_at' w59) ?_); intro _; refine spf h (fun c61 h => ?_) (fun c61 h => ?_)
              · intro _; obtain ⟨y678, w62, q63, h⟩ := ix_ok h; refine Exists.intro (cGStep y678) (And.intro (map_at' w62) ?_); intro _; obtain ⟨y679, w64, q65, h⟩ := ix_ok h; refine Exists.intro (cGStep y679) (And.intro (map_at' w64) ?_); intro _; refine spl h (fun c66 h => ?_) (fun c66 h => ?_)
                · intro _; obtain ⟨y680, w67, q68, h⟩ := ix_ok h; refine Exists.intro (cGStep y680) (And.intro (map_at' w67) ?_); intro _; obtain ⟨y681, w69, q70, h⟩ := ix_ok h; refine Exists.intro (cGStep y681) (And.intro (map_at' w69) ?_); intro _; refine pr_XDOrd ?_; refine pr_XDOrd ?_; refine pr_XDOrd ?_; refine pr_XDOrd ?_; refine pr_XDOrd ?_; refine pr_XDOrd ?_; refine dr_XDOrd ?_; refine aCd ?_; intro _; refine spl h (fun c71 h => ?_) (fun c71 h => ?_)
                  · refine aSq ?_; refine aRg ?_; intro _; refine dr_XDOrd ?_; refine aRt ?_; have j72 := Option.some.inj h; subst j72; replace h := (osum_r hK53); intro _; obtain rfl := inj1 h; exact ca_XDOrd
                  · refine aSk ?_; refine aRg ?_; intro _; refine dr_XDOrd ?_; refine ⟨(k675, (IntKind.i64.wrap (x54.2 + 1))), h, ltS m55, ?_⟩; exact ca_XDOrd
                · intro _; refine pr_XDOrd ?_; refine pr_XDOrd ?_; refine pr_XDOrd ?_; refine pr_XDOrd ?_; refine dr_XDOrd ?_; refine aCd ?_; intro _; refine litF ?_; refine aSk ?_; refine aRg ?_; intro _; refine dr_XDOrd ?_; refine ⟨(k675, (IntKind.i64.wrap (x54.2 + 1))), h, ltS m55, ?_⟩; exact ca_XDOrd
              · intro _; refine pr_XDOrd ?_; refine pr_XDOrd ?_; refine dr_XDOrd ?_; refine aCd ?_; intro _; refine litT ?_; refine aSq ?_; refine aRg ?_; intro _; refine dr_XDOrd ?_; refine aRt ?_; have j73 := Option.some.inj h; subst j73; replace h := (osum_r hK53); intro _; obtain rfl := inj1 h; exact ca_XDOrd
            · refine aEx ?_; refine ⟨(), (Option.some.inj h).symm, ?_⟩; exact ca_XDOrd
        · rintro _ ho; have ho := ho.symm; subst ho; intro _; replace h := (osum_l hK53); refine aSq ?_; refine aRg ?_; intro _; refine spl h (fun c74 h => ?_) (fun c74 h => ?_)
          · intro _; obtain ⟨q75, h⟩ := grd_ok h; obtain ⟨z682, u76, h⟩ := ob1_ok h; refine clb_XDOrd [40] rfl rfl (A_l13_Same a0 v19 u76) ?_; intro _; refine spl h (fun c77 h => ?_) (fun c77 h => ?_)
            · intro _; obtain ⟨z683, u78, h⟩ := ob1_ok h; refine cl_XDOrd rfl (A_planfile_Sort g z29 u78) ?_; intro _; obtain ⟨z684, u79, h⟩ := ob1_ok h; refine cl_XDOrd rfl (A_l13_Same z683 z29 u79) ?_; intro _; refine dr_XDOrd ?_; refine aRt ?_; intro _; obtain rfl := inj1 h; exact ca_XDOrd
            · intro _; refine dr_XDOrd ?_; refine aRt ?_; intro _; obtain rfl := inj1 h; exact ca_XDOrd
          · intro _; refine dr_XDOrd ?_; refine aRt ?_; intro _; obtain rfl := inj1 h; exact ca_XDOrd
end Go.Proofs.YtljekaadbabhkaaDoor.Am
/- Range loops of the models as recursions. -/
namespace Go.Proofs.YtljekaadbabhkaaDoor.Am
end Go.Proofs.YtljekaadbabhkaaDoor.Am
/- Plain: PlanfileOrders is true. -/
namespace Go.Proofs.YtljekaadbabhkaaDoor.Am
open Go.RowKit

theorem copy2_loop (l : List GStep) (hl : SmallS l) : ∀ (k n : Nat), n ≤ l.length → l.length < k + n → M_l13_PlanfileOrders_L1 l k (n : Int) (l.take n) = some l
  | 0, n, h1, h2 => by omega
  | k + 1, n, h1, h2 => by
    have h3 := hl.1
    rw [M_l13_PlanfileOrders_L1, sel_dec, List.length_map]
    by_cases hn : n < l.length
    · obtain ⟨x, hx, hd⟩ := drop_at hn
      have h4 := hl.2 x (List.mem_of_getElem? hx)
      rw [if_pos (by omega), ix_at hx, grd_t (by omega), List.length_take, grd_t (by omega), grd_t (by omega), w64s (by omega)]
      have e : l.take n ++ [({ At := x.At, Name := x.Name, Args := x.Args } : GStep)] = l.take (n + 1) := by
        rw [List.take_add_one, hx]; rfl
      rw [e]
      exact copy2_loop l hl k (n + 1) hn (by omega)
    · rw [if_neg (by omega), List.take_of_length_le (by omega)]
theorem same_one (x y : GStep) (hx : x.Args.length * 16 ≤ 140737488355328) : M_l13_Same [x] [y] = some (decide (x = y)) := by
  rw [same_eq [x] [y] (by simp) (fun z hz => by simp at hz; subst hz; omega)]
  congr 1
  simp
def cntS (y : GStep) (l : List GStep) : Nat := l.countP (fun x => decide (x = y))
theorem cntS_cons (y x : GStep) (l : List GStep) : cntS y (x :: l) = cntS y l + if x = y then 1 else 0 := by
  unfold cntS
  rw [List.countP_cons]
  simp
theorem cnt2_loop (l : List GStep) (y : GStep) (hl : SmallS l) : ∀ (k n v : Nat), n ≤ l.length → l.length < k + n → v ≤ n → M_l13_PlanfileOrders_L2 l y k (v : Int) (n : Int) = some ((v + cntS y (l.drop n) : Nat) : Int)
  | 0, n, v, h1, h2, _ => by omega
  | k + 1, n, v, h1, h2, h5 => by
    have h3 := hl.1
    rw [M_l13_PlanfileOrders_L2, sel_dec, List.length_map]
    by_cases hn : n < l.length
    · obtain ⟨x, hx, hd⟩ := drop_at hn
      have h4 := hl.2 x (List.mem_of_getElem? hx)
      rw [if_pos (by omega), ix_at hx, same_one x y h4, ob1_some, sel_dec, w64s (by omega), w64s (by omega), hd, cntS_cons]
      by_cases e : x = y
      · rw [if_pos e, if_pos e, cnt2_loop l y hl k (n + 1) (v + 1) hn (by omega) (by omega)]
        congr 2
        omega
      · rw [if_neg e, if_neg e, cnt2_loop l y hl k (n + 1) v hn (by omega) (by omega)]
        rfl
    · rw [if_neg (by omega), List.drop_eq_nil_of_le (by omega)]
      rfl
theorem cnt3_loop (l : List GStep) (y : GStep) (hl : SmallS l) : ∀ (k n v : Nat), n ≤ l.length → l.length < k + n → v ≤ n → M_l13_PlanfileOrders_L3 y l k (v : Int) (n : Int) = some ((v + cntS y (l.drop n) : Nat) : Int)
  | 0, n, v, h1, h2, _ => by omega
  | k + 1, n, v, h1, h2, h5 => by
    have h3 := hl.1
    rw [M_l13_PlanfileOrders_L3, sel_dec, List.length_map]
    by_cases hn : n < l.length
    · obtain ⟨x, hx, hd⟩ := drop_at hn
      have h4 := hl.2 x (List.mem_of_getElem? hx)
      rw [if_pos (by omega), ix_at hx, same_one x y h4, ob1_some, sel_dec, w64s (by omega), w64s (by omega), hd, cntS_cons]
      by_cases e : x = y
      · rw [if_pos e, if_pos e, cnt3_loop l y hl k (n + 1) (v + 1) hn (by omega) (by omega)]
        congr 2
        omega
      · rw [if_neg e, if_neg e, cnt3_loop l y hl k (n + 1) v hn (by omega) (by omega)]
        rfl
    · rw [if_neg (by omega), List.drop_eq_nil_of_le (by omega)]
      rfl
theorem ord4_loop (l z : List GStep) (hl : SmallS l) (hp : z.Perm l) : ∀ (k n : Nat), n ≤ l.length → l.length < k + n → M_l13_PlanfileOrders_L4 l z k (n : Int) = some (.inl ())
  | 0, n, h1, h2 => by omega
  | k + 1, n, h1, h2 => by
    have h3 := hl.1
    rw [M_l13_PlanfileOrders_L4, sel_dec, List.length_map]
    by_cases hn : n < l.length
    · obtain ⟨x, hx, hd⟩ := drop_at hn
      have e1 := cnt2_loop l x hl (l.length + 1) 0 0 (Nat.zero_le _) (by omega) (Nat.le_refl _)
      have e2 := cnt3_loop z x (hl.perm hp) (z.length + 1) 0 0 (Nat.zero_le _) (by omega) (Nat.le_refl _)
      have e3 : cntS x z = cntS x l := hp.countP_eq _
      rw [List.drop_zero, Nat.zero_add] at e1 e2
      rw [if_pos (by omega), ix_at hx, List.length_map, Int.toNat_natCast, Int.toNat_natCast]
      rw [show M_l13_PlanfileOrders_L2 l x (l.length + 1) 0 0 = _ from e1, ob1_some, show M_l13_PlanfileOrders_L3 x z (z.length + 1) 0 0 = _ from e2, ob1_some, e3, bne, beq_self_eq_true, Bool.not_true, sel_ff, ob1_some, osum_inl, w64s (by omega)]
      exact ord4_loop l z hl hp k (n + 1) hn (by omega)
    · rw [if_neg (by omega)]
theorem stepC_parts {x y : GStep} (h : stepC x y ≤ 0) : ¬ y.At < x.At ∧ (y.At = x.At → ¬ strC y.Name x.Name < 0) := by
  unfold stepC pairC intC at h
  simp only at h
  by_cases e : x.At = y.At
  · rw [if_pos e, if_pos rfl] at h
    refine ⟨by omega, fun _ h2 => ?_⟩
    have h3 := (strC_cmp.anti _ _).1 h2
    rw [if_neg (by omega)] at h
    omega
  · rw [if_neg e] at h
    by_cases e2 : x.At < y.At
    · exact ⟨by omega, fun e3 => absurd e3.symm e⟩
    · rw [if_neg e2, if_neg (by decide)] at h
      omega
theorem ord5_loop (z : List GStep) (hz : SmallS z) (ho : OrdS z) : ∀ (k n : Nat), 0 < n → z.length < k + n → 0 < k → M_l13_PlanfileOrders_L5 z k (n : Int) = some (.inl ())
  | 0, n, _, h2, h => by omega
  | k + 1, n, h1, h2, _ => by
    have h3 := hz.1
    rw [M_l13_PlanfileOrders_L5, sel_dec, List.length_map]
    by_cases hn : n < z.length
    · obtain ⟨x, hx, _⟩ := drop_at hn
      obtain ⟨y, hy, _⟩ := drop_at (l := z) (n := n - 1) (by omega)
      have e : IntKind.i64.wrap ((n : Int) - 1) = ((n - 1 : Nat) : Int) := by rw [w64 (by omega) (by omega)]; omega
      have h7 := List.pairwise_iff_getElem.1 ho (n - 1) n (by omega) hn (by omega)
      have hx' := hx
      have hy' := hy
      rw [List.getElem?_eq_getElem hn] at hx'
      rw [List.getElem?_eq_getElem (by omega)] at hy'
      cases hx'
      cases hy'
      obtain ⟨p1, p2⟩ := stepC_parts h7
      rw [if_pos (by omega), e, ix_at hx, ix_at hy, sel_dec, if_neg p1, ix_at hx, ix_at hy, beq_int, sel_dec]
      by_cases e2 : (z[n]'hn).At = (z[n - 1]'(by omega)).At
      · rw [if_pos e2, ix_at hx, ix_at hy, less_str, sel_dec, if_neg (p2 e2), w64s (by omega)]
        exact ord5_loop z hz ho k (n + 1) (by omega) (by omega) (by omega)
      · rw [if_neg e2, w64s (by omega)]
        exact ord5_loop z hz ho k (n + 1) (by omega) (by omega) (by omega)
    · rw [if_neg (by omega)]
theorem orders_true (l : List GStep) (hl : SmallS l) : M_l13_PlanfileOrders 20000000000000 l = some true := by
  have h3 := hl.1
  obtain ⟨b, hb⟩ := long_some l hl
  rw [M_l13_PlanfileOrders, hb, ob1_some, awake_eq, ob1_some, ob1_some]
  cases b with
  | true => rfl
  | false =>
    obtain ⟨s, s1, s2, s3⟩ := gsort_eq 20000000000000 l hl (by omega)
    have hs := hl.perm s2
    have hsl := s2.length_eq
    obtain ⟨t, t1, t2, t3⟩ := gsort_eq 20000000000000 s hs (by omega)
    obtain rfl := ord_unique t3 s3 t2
    have e1 := copy2_loop l hl (l.length + 1) 0 (Nat.zero_le _) (by omega)
    have e2 := ord4_loop l t hl s2 (l.length + 1) 0 (Nat.zero_le _) (by omega)
    have e3 := ord5_loop t hs s3 20000000000000 1 (by omega) (by omega) (by omega)
    rw [sel_ff, sel_not, sel_tt, ob1_some, osum_inl, List.length_map, Int.toNat_natCast]
    rw [show M_l13_PlanfileOrders_L1 l (l.length + 1) 0 [] = _ from e1, ob1_some, s1, ob1_some, show M_l13_PlanfileOrders_L4 l t (l.length + 1) 0 = _ from e2, ob1_some, osum_inl, show M_l13_PlanfileOrders_L5 t 20000000000000 1 = _ from e3, ob1_some, osum_inl, List.length_map, hsl, beq_self_eq_true, sel_tt, grd_t (by omega), same_self l hl, ob1_some, sel_tt, t1, ob1_some, same_self _ hs, ob1_some]
end Go.Proofs.YtljekaadbabhkaaDoor.Am
/- stratagemlaw13.PlanfileOrders returns true for every input. No condition beyond the card's own. -/
namespace Go.Proofs.YtljekaadbabhkaaDoor.rowOrders
open Go.ChangeShapes Go.WideShapes Go.ChangeAt Go.RowKit Am

set_option maxRecDepth 100000 in
theorem contract (H : Type) (enc : TypeId × Value → H) (W : World) (base : Nat) (args : Array Value) (ds gs : List (DataW H)) (before : List MemPlace)
    (hval : ∀ (j : Nat) t v, Tryd.f5.params[j]? = some t → args[j]? = some v → Value.okWide Tryd.prog W .any base t v)
    (hW : DataW.Whole enc Tryd.prog Tryd.f5.params.toList Rows.planfileOrdersSpec.vars false W args.toList ds gs before) (hL : laidMetH Tryd.prog Rows.planfileOrdersRow.laid W)
    (hsz : (DataW.weightsEach Tryd.prog (Tryd.f5.params.toList ++ (OpenSpec.ofChange Rows.planfileOrdersSpec).bare.plain.varTypes Tryd.prog) (ds ++ gs)).all (· ≤ reachBytes) = true) (hsh : W.ShapedOpen Tryd.prog) :
    Calls Tryd.prog 5 args W fun e W' => ∃ v, e = .returned v ∧ Rows.planfileOrdersSpec.post enc Tryd.prog Tryd.f5 false true false false W args v W' := by
  have hW' := hW
  obtain ⟨p, q, hA0, hV, rfl, hfz, hnd⟩ := hW
  have hA : DataW.TrodAll enc Tryd.prog W 0 (fun _ => true) true Tryd.f5.params.toList args.toList ds p := hA0
  rw [Tryd.params5] at hA hval
  obtain ⟨v0, vs0, d0, ds0, p0, q0, hargs, rfl, rfl, h0, r0⟩ := trodAll_cons hA
  obtain ⟨rfl, rfl, rfl⟩ := trodAll_nil r0
  obtain rfl : args = #[v0] := Array.ext' hargs
  obtain ⟨rfl, rfl⟩ := trodVars_none hV
  simp only [List.append_nil] at hW' hA0 hsz
  rw [Tryd.params5] at hsz
  obtain ⟨a0, len0, cap0, rfl⟩ := okWide_slice Tryd.underlying23 (hval 0 23 v0 rfl rfl)
  obtain ⟨l, hl, k0⟩ := arg_one rfl oSteps h0 (sized_arg hsz (j := 0) rfl rfl)
  refine (law_of (A_l13_PlanfileOrders 20000000000000 l (orders_true l hl.small)) ⟨trivial, Tryd.laysM146.s1_3 W hsh⟩ rfl (fun j x v hx hv => ?_)).mono fun e W' ⟨he, hb⟩ => ?_
  · match j, hx, hv with
    | 0, hx, hv => simp at hx hv; subst hx hv; exact k0
    | j + 1, hx, hv => simp at hx
  · subst he
    exact ⟨_, rfl, law_post laidOut rfl (by kernel_rfl) Tryd.underlying4 (by kernel_rfl) hW' hA0 rfl rfl rfl hb⟩
theorem laid_met (os : Os) : laidMet Tryd.prog Rows.planfileOrdersRow.laid ((laidWorld5 os).forCall (fun _ _ => 0) ⟨#[], #[.slice none 0 0], []⟩).memory :=
  laidMet_of_run' 8 (by kernel_rfl) (by kernel_rfl)
theorem reads (os : Os) {H : Type} (enc : TypeId × Value → H) : ∃ places, DataW.whole enc Tryd.prog ((laidWorld5 os).forCall (fun _ _ => 0) ⟨#[], #[.slice none 0 0], []⟩).memory Tryd.f5.params.toList Rows.planfileOrdersSpec.vars false (#[.slice none 0 0] : Array Value).toList 8 = some ([.nil], [], places) :=
  ⟨[], by kernel_rfl⟩

set_option maxRecDepth 100000 in
theorem lifted (os : Os) (started : os.Started) (H : Type) (enc : TypeId × Value → H) (F : Stop.Interp) :
    ReturnsInHanded {} Tryd.checked os 5 .any ((OpenSpec.ofChange Rows.planfileOrdersSpec).preRow enc Tryd.prog Tryd.f5 Rows.planfileOrdersRow.domain false Rows.planfileOrdersRow.laid) (((OpenSpec.ofChange Rows.planfileOrdersSpec).at F).post enc Tryd.prog Tryd.f5 false true false false) := by
  obtain ⟨places, hx⟩ := reads os enc
  refine returnsInHanded_of_row (C := Tryd.checked) (s := OpenSpec.ofChange Rows.planfileOrdersSpec) own started (by kernel_rfl) Tryd.func5
    (witness_row_at (enc := enc) (C := Tryd.checked) false (laidWorld5 os) #[.slice none 0 0] rfl (by kernel_rfl) (by kernel_rfl) (by kernel_rfl)
      (OpenSpec.preRow_of_cond 8 hx (by kernel_rfl) (fun k hk => by cases hk) (by kernel_rfl) (laid_met os))) ?_
  intro W base args ds gs before hval hW _ _ hsz hL hsh _
  exact contract H enc W base args ds gs before hval hW hL hsz hsh

theorem said : Rows.PlanfileOrdersSaid :=
  OpenClaim.holds_of_cond 5 Tryd.f5 rfl rfl rfl rfl rfl rfl rfl ⟨rfl, rfl, rfl, rfl, rfl⟩ rfl rfl rfl rfl rfl (by kernel_rfl) Tryd.func5 (by kernel_rfl)
    (of_decide_eq_true (by kernel_rfl)) (by unfold Func.isWrapper; first | (rw [if_pos (by decide +kernel)]; kernel_rfl) | (rw [if_neg (by decide +kernel)]; exact ⟨rfl, rfl⟩))
    (fun os started H enc _ F => by rw [OpenClaim.pre_eq_preRow]; exact lifted os started H enc F)

theorem plain (f : FuncId) (fn : Func) (hf : Tryd.pinned.checked.prog.funcNamed Rows.planfileOrdersRow.func = some f) (hfn : Tryd.pinned.checked.prog.funcs[f]? = some fn) :
    true = Tryd.pinned.checked.prog.looks [] ∧ ∀ (j : Nat) t, fn.params[j]? = some t → Tryd.pinned.checked.prog.wantsStandIn t = false := by
  obtain rfl : f = 5 := Option.some.inj ((show Tryd.prog.funcNamed Rows.planfileOrdersRow.func = some 5 by kernel_rfl).symm.trans hf) |>.symm
  obtain rfl : fn = Tryd.f5 := (Option.some.inj (Tryd.func5.symm.trans hfn)).symm
  refine ⟨by kernel_rfl, fun j t ht => ?_⟩
  have hall : Tryd.f5.params.toList.all (fun t => !Tryd.prog.wantsStandIn t) = true := by kernel_rfl
  have := List.all_eq_true.1 hall t (by simpa using Array.mem_of_getElem? ht)
  have h2 : Tryd.prog.wantsStandIn t = false := by simpa using this
  exact h2

/-- THE CARD: stratagemlaw13's statement holds. -/
theorem card : Rows.PlanfileOrdersCardSaid :=
  Claim7.holds_tied_plain_at .later [] _ _ _ _ said (fun _ h => by cases h) (by kernel_rfl) (fun _ h => by cases h) planfileOrders_row_tie rfl ⟨rfl, rfl⟩ (by kernel_rfl) rfl plain (by kernel_rfl)
end Go.Proofs.YtljekaadbabhkaaDoor.rowOrders
