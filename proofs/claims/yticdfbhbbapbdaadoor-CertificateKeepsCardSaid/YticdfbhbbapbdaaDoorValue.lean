/- stratagemref06.Value, partial.find; append of one fact. -/
import Derived.Test.YticdfbhbbapbdaaDoorAppend
namespace Go.Proofs.YticdfbhbbapbdaaDoor
open Go.RowKit

def valueF : List Fact → Int → Int
  | [], _ => -1
  | (x, y) :: r, v => if x = v then y else valueF r v

set_option maxHeartbeats 1000000 in
theorem value_calls (v : Value) (l : List Fact) (z : Int) (w : World) (hv : FactsAt w v l) :
    Calls Tryd.prog 64 #[v, .int .i64 z] w fun e w' => e = .returned (.int .i64 (valueF l z)) ∧ Below w.heap.size w w' := by
  obtain ⟨A, n, c, rfl, hn, hm⟩ := hv.form
  have HV := Lib.hid hv
  have HN := Lib.hid hn
  clear hv hn
  go_enter Tryd.func64, Tryd.ntmps64
  go_wp2
  go_loopg [9] n (fun g i wr => ∃ k : Nat, k ≤ n ∧ g = n - k ∧ i = .int .i64 k ∧ Below w.heap.size w wr ∧ valueF l z = valueF (l.drop k) z)
  case atStart => exact ⟨0, Nat.zero_le _, by omega, rfl, Below.refl _ _, rfl⟩
  case round =>
    obtain ⟨k, hk, hg, rfl, hB, hF⟩ := hrel
    have HG := Lib.hid hg
    have HF := Lib.hid hF
    clear hg hF
    by_cases hlt : k < n
    · obtain ⟨b, off, x, y, rfl, c0, c1, hx, hd⟩ := (HV.out.keep hB).at hlt
      have hbr : b < wr.heap.size := lt_of_cell c0
      have HX := Lib.hid hx
      have HD := Lib.hid hd
      clear hx hd
      by_cases hxz : x = z
      · have hb : (x == z) = true := by simpa using hxz
        have hfin : valueF l z = y := by rw [HF.out, HD.out, valueF, if_pos hxz]
        have HXZ := Lib.hid hxz
        have HFIN := Lib.hid hfin
        clear hxz hfin
        go_wp2
        go_ret
        exact ⟨by rw [HFIN.out]; rfl, belowA hB _⟩
      · have hb : (x == z) = false := by simpa using hxz
        have hnext : valueF l z = valueF (l.drop (k + 1)) z := by rw [HF.out, HD.out, valueF, if_neg hxz]
        have HXZ := Lib.hid hxz
        have HNEXT := Lib.hid hnext
        clear hxz hnext
        go_wp2
        go_roundg (n - (k + 1))
        case measure => have := HG.out; omega
        case rel => exact ⟨k + 1, by omega, rfl, by go_num, belowA hB _, HNEXT.out⟩
    · have hfin : valueF l z = -1 := by rw [HF.out, List.drop_eq_nil_of_le (by have := HN.out; omega), valueF]
      have HFIN := Lib.hid hfin
      clear hfin
      go_wp2
      go_ret
      exact ⟨by rw [HFIN.out]; rfl, hB⟩
set_option maxHeartbeats 1000000 in
theorem find_calls (v : Value) (l : List Fact) (z : Int) (w : World) (hv : FactsAt w v l) :
    Calls Tryd.prog 65 #[v, .int .i64 z] w fun e w' => e = .returned (.int .i64 (valueF l z)) ∧ Below w.heap.size w w' := by
  obtain ⟨A, n, c, rfl, hn, hm⟩ := hv.form
  have HV := Lib.hid hv
  have HN := Lib.hid hn
  clear hv hn
  go_enter Tryd.func65, Tryd.ntmps65
  go_wp2
  go_loopg [9] n (fun g i wr => ∃ k : Nat, k ≤ n ∧ g = n - k ∧ i = .int .i64 k ∧ Below w.heap.size w wr ∧ valueF l z = valueF (l.drop k) z)
  case atStart => exact ⟨0, Nat.zero_le _, by omega, rfl, Below.refl _ _, rfl⟩
  case round =>
    obtain ⟨k, hk, hg, rfl, hB, hF⟩ := hrel
    have HG := Lib.hid hg
    have HF := Lib.hid hF
    clear hg hF
    by_cases hlt : k < n
    · obtain ⟨b, off, x, y, rfl, c0, c1, hx, hd⟩ := (HV.out.keep hB).at hlt
      have hbr : b < wr.heap.size := lt_of_cell c0
      have HX := Lib.hid hx
      have HD := Lib.hid hd
      clear hx hd
      by_cases hxz : x = z
      · have hb : (x == z) = true := by simpa using hxz
        have hfin : valueF l z = y := by rw [HF.out, HD.out, valueF, if_pos hxz]
        have HXZ := Lib.hid hxz
        have HFIN := Lib.hid hfin
        clear hxz hfin
        go_wp2
        go_ret
        exact ⟨by rw [HFIN.out]; rfl, belowA hB _⟩
      · have hb : (x == z) = false := by simpa using hxz
        have hnext : valueF l z = valueF (l.drop (k + 1)) z := by rw [HF.out, HD.out, valueF, if_neg hxz]
        have HXZ := Lib.hid hxz
        have HNEXT := Lib.hid hnext
        clear hxz hnext
        go_wp2
        go_roundg (n - (k + 1))
        case measure => have := HG.out; omega
        case rel => exact ⟨k + 1, by omega, rfl, by go_num, belowA hB _, HNEXT.out⟩
    · have hfin : valueF l z = -1 := by rw [HF.out, List.drop_eq_nil_of_le (by have := HN.out; omega), valueF]
      have HFIN := Lib.hid hfin
      clear hfin
      go_wp2
      go_ret
      exact ⟨by rw [HFIN.out]; rfl, hB⟩

theorem reads_new (W : World) (x1 x2 : Int) : Reads (W.alloc (.cells #[.int .i64 x1, .int .i64 x2] 54)) (W.heap.size + 1) 2 (some ⟨W.heap.size, 0, none⟩) 1 (factCells [(x1, x2)]) := by
  refine ⟨rfl, fun _ => ⟨_, rfl, by simp, fun j u hu => ?_⟩⟩
  rw [add_plain]
  have hj : j < 2 := (List.getElem?_eq_some_iff.1 hu).1
  have hj2 : j = 0 ∨ j = 1 := by omega
  rcases hj2 with rfl | rfl
  · simp [factCells] at hu; subst hu; simp
  · simp [factCells] at hu; subst hu; simp

/-- 'out = append(out, fact)' on a row of the call's own -/
theorem wpList_append_fact {ops : Array Oper} {rest : List Oper} {o : Oper} {a : Act} {Q : Exit → Act → World → Prop} (hgd : o.guard = none) (s x : Operand)
    (ho : o.op = .call { callee := .builtin .append, args := #[s, x], argTypes := #[43, 43] })
    (W : World) (base : Nat) (v : Value) (l : List Fact) (x1 x2 : Int) (hs : a.eval s = v) (hown : OwnF W base v l) (hx : a.eval x = .slice (some ⟨W.heap.size, 0, none⟩) 1 1)
    (hlen : (l.length + 1) * 16 ≤ 140737488355328) (hbase : base ≤ W.heap.size)
    (h : ∀ v' w', OwnF w' base v' (l ++ [(x1, x2)]) → (W.alloc (.cells #[.int .i64 x1, .int .i64 x2] 54)).grownBy w' v.ownBlock → wpList Tryd.prog ops Q rest (a.put o.dst v') w') :
    wpList Tryd.prog ops Q (o :: rest) a (W.alloc (.cells #[.int .i64 x1, .int .i64 x2] 54)) := by
  obtain ⟨i0, hi0, hz0, hz1, hz2⟩ := info_parts factInfo
  refine wpList_append_any _ hgd s x _ ho base 54 i0 _ 2 16 Tryd.underlying43 hi0 hz0 hz1 hz2 rfl (by omega) v l.length (factCells l) hs (ownF_keep hown (belowA (Below.refl _ _) _)) _ _ 1 1 (factCells [(x1, x2)]) hx (reads_new W x1 x2) (factCells_one _) (by simp only [maxLen]; omega) hlen (by simp; omega) ?_
  intro v' w' h1 h2 _
  refine h v' w' ?_ h2
  unfold OwnF
  rw [factCells_append, List.length_append]
  exact h1

def withL (x : Fact) : Bool → List Fact → List Fact → List Fact
  | p, acc, [] => if p then acc else acc ++ [x]
  | p, acc, y :: r => if !p && decide (x.1 < y.1) then withL x true (acc ++ [x] ++ [y]) r else withL x p (acc ++ [y]) r
def withF (l : List Fact) (x : Fact) : List Fact := withL x false [] l

theorem grown_cell {w w' : World} {row : Option Nat} (hg : w.grownBy w' row) {p : Addr} {u : Value} (h : w.cell? p = some u) (hne : some p.block ≠ row) : w'.cell? p = some u := by
  rw [World.cell?_of_block (w := w) (hg.block p.block (lt_of_cell h) hne)]; exact h
theorem own_ne {w : World} {base : Nat} {e : TypeId} {size n : Nat} {v : Value} {xs : List Value} (h : w.ownsRow base e size v n xs) {b : Nat} (hb : b < base ∨ w.heap.size ≤ b) : some b ≠ v.ownBlock := by
  intro e1
  have := h.lt b e1.symm
  omega
end Go.Proofs.YticdfbhbbapbdaaDoor
