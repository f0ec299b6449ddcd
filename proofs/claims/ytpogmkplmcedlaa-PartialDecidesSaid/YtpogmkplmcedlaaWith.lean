/- stratagemref06.Value, partial.find; stratagemref06.With. -/
import Derived.Test.YtpogmkplmcedlaaAppend
namespace Go.Proofs.Ytpogmkplmcedlaa
open Go.RowKit

def valueF : List Fact → Int → Int
  | [], _ => -1
  | (x, y) :: r, v => if x = v then y else valueF r v

set_option maxHeartbeats 1000000 in
theorem value_calls (v : Value) (l : List Fact) (z : Int) (w : World) (hv : FactsAt w v l) :
    Calls Try.prog 37 #[v, .int .i64 z] w fun e w' => e = .returned (.int .i64 (valueF l z)) ∧ Below w.heap.size w w' := by
  obtain ⟨A, n, c, rfl, hn, hm⟩ := hv.form
  have HV := Lib.hid hv
  have HN := Lib.hid hn
  clear hv hn
  go_enter Try.func37, Try.ntmps37
  go_wp2
  go_loopg [9] n (fun g i wr => ∃ k : Nat, k ≤ n ∧ g = n - k ∧ i = .int .i64 k ∧ Below w.heap.size w wr ∧ valueF l z = valueF (l.drop k) z)
  case atStart => exact ⟨0, Nat.zero_le _, by omega, rfl, Below.refl _ _, rfl⟩
  case round =>
    obtain ⟨k, hk, hg, rfl, hB, hF⟩ := hrel
    have HG := Lib.hid hg
    have HF := Lib.hid hF
    clear hg hF
    by_cases hlt : k < n
    · obtain ⟨b, off, x, y, rfl, c0, c1, hx, hd⟩ := (HV.out.keep hB).at hlt
      have hbr : b < wr.heap.size := lt_of_cell c0
      have HX := Lib.hid hx
      have HD := Lib.hid hd
      clear hx hd
      by_cases hxz : x = z
      · have hb : (x == z) = true := by simpa using hxz
        have hfin : valueF l z = y := by rw [HF.out, HD.out, valueF, if_pos hxz]
        have HXZ := Lib.hid hxz
        have HFIN := Lib.hid hfin
        clear hxz hfin
        go_wp2
        go_ret
        exact ⟨by rw [HFIN.out]; rfl, belowA hB _⟩
      · have hb : (x == z) = false := by simpa using hxz
        have hnext : valueF l z = valueF (l.drop (k + 1)) z := by rw [HF.out, HD.out, valueF, if_neg hxz]
        have HXZ := Lib.hid hxz
        have HNEXT := Lib.hid hnext
        clear hxz hnext
        go_wp2
        go_roundg (n - (k + 1))
        case measure => have := HG.out; omega
        case rel => exact ⟨k + 1, by omega, rfl, by go_num, belowA hB _, HNEXT.out⟩
    · have hfin : valueF l z = -1 := by rw [HF.out, List.drop_eq_nil_of_le (by have := HN.out; omega), valueF]
      have HFIN := Lib.hid hfin
      clear hfin
      go_wp2
      go_ret
      exact ⟨by rw [HFIN.out]; rfl, hB⟩
set_option maxHeartbeats 1000000 in
theorem find_calls (v : Value) (l : List Fact) (z : Int) (w : World) (hv : FactsAt w v l) :
    Calls Try.prog 43 #[v, .int .i64 z] w fun e w' => e = .returned (.int .i64 (valueF l z)) ∧ Below w.heap.size w w' := by
  obtain ⟨A, n, c, rfl, hn, hm⟩ := hv.form
  have HV := Lib.hid hv
  have HN := Lib.hid hn
  clear hv hn
  go_enter Try.func43, Try.ntmps43
  go_wp2
  go_loopg [9] n (fun g i wr => ∃ k : Nat, k ≤ n ∧ g = n - k ∧ i = .int .i64 k ∧ Below w.heap.size w wr ∧ valueF l z = valueF (l.drop k) z)
  case atStart => exact ⟨0, Nat.zero_le _, by omega, rfl, Below.refl _ _, rfl⟩
  case round =>
    obtain ⟨k, hk, hg, rfl, hB, hF⟩ := hrel
    have HG := Lib.hid hg
    have HF := Lib.hid hF
    clear hg hF
    by_cases hlt : k < n
    · obtain ⟨b, off, x, y, rfl, c0, c1, hx, hd⟩ := (HV.out.keep hB).at hlt
      have hbr : b < wr.heap.size := lt_of_cell c0
      have HX := Lib.hid hx
      have HD := Lib.hid hd
      clear hx hd
      by_cases hxz : x = z
      · have hb : (x == z) = true := by simpa using hxz
        have hfin : valueF l z = y := by rw [HF.out, HD.out, valueF, if_pos hxz]
        have HXZ := Lib.hid hxz
        have HFIN := Lib.hid hfin
        clear hxz hfin
        go_wp2
        go_ret
        exact ⟨by rw [HFIN.out]; rfl, belowA hB _⟩
      · have hb : (x == z) = false := by simpa using hxz
        have hnext : valueF l z = valueF (l.drop (k + 1)) z := by rw [HF.out, HD.out, valueF, if_neg hxz]
        have HXZ := Lib.hid hxz
        have HNEXT := Lib.hid hnext
        clear hxz hnext
        go_wp2
        go_roundg (n - (k + 1))
        case measure => have := HG.out; omega
        case rel => exact ⟨k + 1, by omega, rfl, by go_num, belowA hB _, HNEXT.out⟩
    · have hfin : valueF l z = -1 := by rw [HF.out, List.drop_eq_nil_of_le (by have := HN.out; omega), valueF]
      have HFIN := Lib.hid hfin
      clear hfin
      go_wp2
      go_ret
      exact ⟨by rw [HFIN.out]; rfl, hB⟩

theorem reads_new (W : World) (x1 x2 : Int) : Reads (W.alloc (.cells #[.int .i64 x1, .int .i64 x2] 56)) (W.heap.size + 1) 2 (some ⟨W.heap.size, 0, none⟩) 1 (factCells [(x1, x2)]) := by
  refine ⟨rfl, fun _ => ⟨_, rfl, by simp, fun j u hu => ?_⟩⟩
  rw [add_plain]
  have hj : j < 2 := (List.getElem?_eq_some_iff.1 hu).1
  have hj2 : j = 0 ∨ j = 1 := by omega
  rcases hj2 with rfl | rfl
  · simp [factCells] at hu; subst hu; simp
  · simp [factCells] at hu; subst hu; simp

/-- 'out = append(out, fact)' on a row of the call's own -/
theorem wpList_append_fact {ops : Array Oper} {rest : List Oper} {o : Oper} {a : Act} {Q : Exit → Act → World → Prop} (hgd : o.guard = none) (s x : Operand)
    (ho : o.op = .call { callee := .builtin .append, args := #[s, x], argTypes := #[22, 22] })
    (W : World) (base : Nat) (v : Value) (l : List Fact) (x1 x2 : Int) (hs : a.eval s = v) (hown : OwnF W base v l) (hx : a.eval x = .slice (some ⟨W.heap.size, 0, none⟩) 1 1)
    (hlen : (l.length + 1) * 16 ≤ 140737488355328) (hbase : base ≤ W.heap.size)
    (h : ∀ v' w', OwnF w' base v' (l ++ [(x1, x2)]) → (W.alloc (.cells #[.int .i64 x1, .int .i64 x2] 56)).grownBy w' v.ownBlock → wpList Try.prog ops Q rest (a.put o.dst v') w') :
    wpList Try.prog ops Q (o :: rest) a (W.alloc (.cells #[.int .i64 x1, .int .i64 x2] 56)) := by
  obtain ⟨i0, hi0, hz0, hz1, hz2⟩ := info_parts factInfo
  refine wpList_append_any _ hgd s x _ ho base 56 i0 _ 2 16 Try.underlying22 hi0 hz0 hz1 hz2 rfl (by omega) v l.length (factCells l) hs (ownF_keep hown (belowA (Below.refl _ _) _)) _ _ 1 1 (factCells [(x1, x2)]) hx (reads_new W x1 x2) (factCells_one _) (by simp only [maxLen]; omega) hlen (by simp; omega) ?_
  intro v' w' h1 h2 _
  refine h v' w' ?_ h2
  unfold OwnF
  rw [factCells_append, List.length_append]
  exact h1

def withL (x : Fact) : Bool → List Fact → List Fact → List Fact
  | p, acc, [] => if p then acc else acc ++ [x]
  | p, acc, y :: r => if !p && decide (x.1 < y.1) then withL x true (acc ++ [x] ++ [y]) r else withL x p (acc ++ [y]) r
def withF (l : List Fact) (x : Fact) : List Fact := withL x false [] l

theorem grown_cell {w w' : World} {row : Option Nat} (hg : w.grownBy w' row) {p : Addr} {u : Value} (h : w.cell? p = some u) (hne : some p.block ≠ row) : w'.cell? p = some u := by
  rw [World.cell?_of_block (w := w) (hg.block p.block (lt_of_cell h) hne)]; exact h
theorem own_ne {w : World} {base : Nat} {e : TypeId} {size n : Nat} {v : Value} {xs : List Value} (h : w.ownsRow base e size v n xs) {b : Nat} (hb : b < base ∨ w.heap.size ≤ b) : some b ≠ v.ownBlock := by
  intro e1
  have := h.lt b e1.symm
  omega

set_option maxHeartbeats 2000000 in
theorem with_calls (v : Value) (l : List Fact) (x1 x2 : Int) (w : World) (hv : FactsAt w v l) (hroom : (l.length + 1) * 16 ≤ 140737488355328) :
    Calls Try.prog 38 #[v, .agg #[.int .i64 x1, .int .i64 x2]] w fun e w' => ∃ v', e = .returned v' ∧ OwnF w' w.heap.size v' (withF l (x1, x2)) ∧ Below w.heap.size w w' := by
  obtain ⟨A, n, c, rfl, hn, hm⟩ := hv.form
  rw [← hn] at hroom
  have HV := Lib.hid hv
  have HN := Lib.hid hn
  clear hv hn
  go_enter Try.func38, Try.ntmps38
  go_wp2
  have q0 : (w.alloc (.cells #[.int .i64 x1, .int .i64 x2] 56)).cell? ⟨w.heap.size, 0, none⟩ = some (.int .i64 x1) := by simp
  have q1 : (w.alloc (.cells #[.int .i64 x1, .int .i64 x2] 56)).cell? ⟨w.heap.size, 1, none⟩ = some (.int .i64 x2) := by simp
  have hB0 : Below w.heap.size w (w.alloc (.cells #[.int .i64 x1, .int .i64 x2] 56)) := belowA (Below.refl _ _) _
  have hs0 : (w.alloc (.cells #[.int .i64 x1, .int .i64 x2] 56)).heap.size = w.heap.size + 1 := by simp
  generalize w.alloc (.cells #[.int .i64 x1, .int .i64 x2] 56) = W0 at q0 q1 hB0 hs0 ⊢
  have Q0 := Lib.hid q0
  have Q1 := Lib.hid q1
  have HB0 := Lib.hid hB0
  have HS0 := Lib.hid hs0
  clear q0 q1 hB0 hs0
  go_loopg [5, 6, 11] n (fun g o p i wr => ∃ (k : Nat) (pl : Bool) (acc : List Fact), k ≤ n ∧ g = n - k ∧ i = .int .i64 k ∧ p = .bool pl ∧ Below W0.heap.size W0 wr ∧ OwnF wr (w.heap.size + 1) o acc ∧ acc.length = k + (if pl then 1 else 0) ∧ withF l (x1, x2) = withL (x1, x2) pl acc (l.drop k))
  case atStart => exact ⟨0, false, [], Nat.zero_le _, by omega, rfl, rfl, Below.refl _ _, ⟨rfl, .inl ⟨rfl, rfl⟩⟩, rfl, rfl⟩
  case round =>
    obtain ⟨k, pl, acc, hk, hg, rfl, rfl, hB, hown, hal, hF⟩ := hrel
    obtain ⟨oA, oc, rfl⟩ := hown.form
    have hacc : acc.length ≤ k + 1 := by rw [hal]; split <;> omega
    have hr0 := kept hB Q0.out
    have hr1 := kept hB Q1.out
    have hwr : w.heap.size + 1 ≤ wr.heap.size := by have := HS0.out; have := hB.size; omega
    have hwlt : w.heap.size < wr.heap.size := by omega
    have hBw : Below w.heap.size w wr := belowT HB0.out hB
    generalize hm1 : acc.length = al at hown hacc ⊢
    have HG := Lib.hid hg
    have HF := Lib.hid hF
    have HO := Lib.hid hown
    have HAL := Lib.hid hal
    have HM1 := Lib.hid hm1
    clear hg hF hown hal hm1
    by_cases hlt : k < n
    · obtain ⟨b, off, y1, y2, rfl, c0, c1, hx, hd⟩ := (HV.out.keep hBw).at hlt
      have hbr : b < wr.heap.size := lt_of_cell c0
      have HX := Lib.hid hx
      have HD := Lib.hid hd
      clear hx hd
      by_cases hcond : pl = false ∧ x1 < y1
      · obtain ⟨rfl, hxy⟩ := hcond
        have hnext : withF l (x1, x2) = withL (x1, x2) true (acc ++ [(x1, x2)] ++ [(y1, y2)]) (l.drop (k + 1)) := by
          rw [HF.out, HD.out, withL, if_pos (by simp [hxy])]
        have hak : acc.length = k := by have := HAL.out; simpa using this
        have hl2 : ((acc ++ [(x1, x2)]).length + 1) * 16 ≤ 140737488355328 := by
          rw [List.length_append]; simp only [List.length_cons, List.length_nil]; omega
        have HNEXT := Lib.hid hnext
        have HL2 := Lib.hid hl2
        have HAK := Lib.hid hak
        clear hnext hl2 hak
        go_wp2_with (first
          | (at_builtin
             refine wpList_append_fact rfl (.tmp 24) (.tmp 26) rfl (wr.alloc (.cells #[.int .i64 y1, .int .i64 y2] 56)) (w.heap.size + 1) (.slice oA al oc) acc x1 x2 rfl (ownF_keep HO.out (belowA (Below.refl _ _) _)) (by simp; rfl) (by have := HM1.out; omega) (by simp; omega) ?_
             intro v1 w1 hown1 hg1
             obtain ⟨A1, c1', rfl⟩ := hown1.form
             have hr0' : w1.cell? ⟨wr.heap.size, 0, none⟩ = some (.int .i64 y1) := grown_cell hg1 (kept (belowA (Below.refl _ _) _) (by simp)) (own_ne HO.out (.inr (Nat.le_refl _)))
             have hr1' : w1.cell? ⟨wr.heap.size, 1, none⟩ = some (.int .i64 y2) := grown_cell hg1 (kept (belowA (Below.refl _ _) _) (by simp)) (own_ne HO.out (.inr (Nat.le_refl _)))
             have HB1 := Lib.hid (((hB.alloc hB.size _).alloc (by have := hB.size; simp; omega) _).grown hg1 (by have := hB.size; simp; omega) (fun kk hkk => by have := (HO.out.lt kk hkk).1; have := HS0.out; omega))
             generalize hm2 : (acc ++ [(x1, x2)]).length = al2 at hown1 ⊢
             have HO1 := Lib.hid hown1
             have HM2 := Lib.hid hm2
             clear hg1 hown1 hm2)
          | (at_builtin
             refine wpList_append_fact rfl (.tmp 28) (.tmp 30) rfl w1 (w.heap.size + 1) (.slice A1 al2 c1') (acc ++ [(x1, x2)]) y1 y2 rfl HO1.out rfl HL2.out (by have := HB1.out.size; have := HS0.out; omega) ?_
             intro v2 w2 hown2 hg2))
        go_roundg (n - (k + 1))
        case measure => have := HG.out; omega
        case rel => exact ⟨k + 1, true, _, by omega, rfl, by go_num, rfl, (HB1.out.alloc HB1.out.size _).grown hg2 (by have := HB1.out.size; simp; omega) (fun kk hkk => by have := (HO1.out.lt kk hkk).1; have := HS0.out; omega), hown2, by have := HAK.out; simp; omega, HNEXT.out⟩
      · have hnext : withF l (x1, x2) = withL (x1, x2) pl (acc ++ [(y1, y2)]) (l.drop (k + 1)) := by
          rw [HF.out, HD.out, withL, if_neg]
          intro hc
          simp only [Bool.and_eq_true, decide_eq_true_eq] at hc
          exact hcond ⟨by simpa using hc.1, hc.2⟩
        have hl2 : (acc.length + 1) * 16 ≤ 140737488355328 := by have := HM1.out; omega
        have HNEXT := Lib.hid hnext
        have HL2 := Lib.hid hl2
        clear hnext hl2
        cases pl
        · have hxy : ¬ x1 < y1 := fun h => hcond ⟨rfl, h⟩
          have hxy' : decide (x1 < y1) = false := by simpa using hxy
          clear hcond
          go_wp2_with (at_builtin; refine wpList_append_fact rfl (.tmp 28) (.tmp 30) rfl (wr.alloc (.cells #[.int .i64 y1, .int .i64 y2] 56)) (w.heap.size + 1) (.slice oA al oc) acc y1 y2 rfl (ownF_keep HO.out (belowA (Below.refl _ _) _)) (by simp; rfl) HL2.out (by simp; omega) ?_; intro v2 w2 hown2 hg2)
          go_roundg (n - (k + 1))
          case measure => have := HG.out; omega
          case rel => exact ⟨k + 1, false, _, by omega, rfl, by go_num, rfl, ((hB.alloc hB.size _).alloc (by have := hB.size; simp; omega) _).grown hg2 (by have := hB.size; simp; omega) (fun kk hkk => by have := (HO.out.lt kk hkk).1; have := HS0.out; omega), hown2, by have := HAL.out; simp at this ⊢; omega, HNEXT.out⟩
        · clear hcond
          go_wp2_with (at_builtin; refine wpList_append_fact rfl (.tmp 28) (.tmp 30) rfl (wr.alloc (.cells #[.int .i64 y1, .int .i64 y2] 56)) (w.heap.size + 1) (.slice oA al oc) acc y1 y2 rfl (ownF_keep HO.out (belowA (Below.refl _ _) _)) (by simp; rfl) HL2.out (by simp; omega) ?_; intro v2 w2 hown2 hg2)
          go_roundg (n - (k + 1))
          case measure => have := HG.out; omega
          case rel => exact ⟨k + 1, true, _, by omega, rfl, by go_num, rfl, ((hB.alloc hB.size _).alloc (by have := hB.size; simp; omega) _).grown hg2 (by have := hB.size; simp; omega) (fun kk hkk => by have := (HO.out.lt kk hkk).1; have := HS0.out; omega), hown2, by have := HAL.out; simp at this ⊢; omega, HNEXT.out⟩
    · have hend : withF l (x1, x2) = if pl then acc else acc ++ [(x1, x2)] := by rw [HF.out, List.drop_eq_nil_of_le (by have := HN.out; omega), withL]
      cases pl
      · have hl2 : (acc.length + 1) * 16 ≤ 140737488355328 := by have := HM1.out; have := HAL.out; simp at this; omega
        have hend' : withF l (x1, x2) = acc ++ [(x1, x2)] := by rw [hend]; rfl
        clear hend
        have HEND := Lib.hid hend'
        have HL2 := Lib.hid hl2
        clear hend' hl2
        go_wp2_with (at_builtin; refine wpList_append_fact rfl (.tmp 35) (.tmp 37) rfl wr (w.heap.size + 1) (.slice oA al oc) acc x1 x2 rfl HO.out rfl HL2.out hwr ?_; intro v2 w2 hown2 hg2)
        go_ret
        refine ⟨_, rfl, ?_, ?_⟩
        · rw [HEND.out]
          exact own_mono hown2 (by omega)
        · exact (belowA hBw _).grown hg2 (by have := hBw.size; simp; omega) (fun kk hkk => by have := (HO.out.lt kk hkk).1; omega)
      · have hend' : withF l (x1, x2) = acc := by rw [hend]; rfl
        clear hend
        have HEND := Lib.hid hend'
        clear hend'
        go_wp2
        go_ret
        refine ⟨_, rfl, ?_, hBw⟩
        rw [HEND.out]
        exact own_mono HO.out (by omega)
end Go.Proofs.Ytpogmkplmcedlaa
