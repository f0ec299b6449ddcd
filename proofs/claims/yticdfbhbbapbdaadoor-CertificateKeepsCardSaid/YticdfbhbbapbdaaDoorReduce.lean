/- certificate.Reduce. -/
import Derived.Test.YticdfbhbbapbdaaDoorRReduce
namespace Go.Proofs.YticdfbhbbapbdaaDoor
open Go.RowKit

def eqN (a b : Nogood) : Bool := decide (b.2 = a.2) && decide (a.1.length = b.1.length)
def keepP (i : Nat) (a : Nogood) : Nat → List Nogood → Bool → Bool
  | _, [], q => q
  | k, b :: r, q => if skipN i k a b then keepP i a (k + 1) r q else keepP i a (k + 1) r (q && eqN a b && decide (i < k))
def redP (l : List Nogood) : Nat → List Nogood → List Nogood
  | _, [] => []
  | i, a :: r => if keepP i a 0 l true then a :: redP l (i + 1) r else redP l (i + 1) r
theorem redP_len (l r : List Nogood) : ∀ i, (redP l i r).length ≤ r.length := by
  induction r with
  | nil => intro i; simp [redP]
  | cons a r ih =>
    intro i
    have := ih (i + 1)
    rw [redP]
    split <;> simp <;> omega
def reduceC (bd : Int) (l : List Nogood) : List Nogood := if checkF bd l = 0 then redP l 0 l else l

set_option maxHeartbeats 8000000 in
set_option maxRecDepth 100000 in
theorem reduce_calls (bd : Int) (v : Value) (l : List Nogood) (w : World) (hv : NogoodsAt w v l) :
    Calls Tryd.prog 25 #[.agg #[.int .i64 bd, v]] w fun e w' => ∃ v', e = .returned (.agg #[.int .i64 bd, v']) ∧ NogoodsAt w' v' (reduceC bd l) ∧ Below w.heap.size w w' := by
  obtain ⟨A, n, c, rfl, hn, hm⟩ := hv.form
  have hroom : n * 32 ≤ 140737488355328 := by obtain ⟨_, _, hv', hl, _⟩ := id hv; injection hv' with _ h2 _; omega
  obtain ⟨W0, hW0⟩ : ∃ W0, W0 = (w.alloc (.cells #[.int .i64 bd, .slice A n c] 25)).alloc (.cells #[.int .i64 0, .slice none 0 0] 25) := ⟨_, rfl⟩
  have hBW : Below w.heap.size w W0 := by rw [hW0]; exact belowA (belowA (Below.refl _ _) _) _
  have p0 : W0.cell? ⟨w.heap.size, 0, none⟩ = some (.int .i64 bd) := by rw [hW0]; simp
  have p1 : W0.cell? ⟨w.heap.size, 1, none⟩ = some (.slice A n c) := by rw [hW0]; simp
  have hrb : W0.heap[w.heap.size + 1]? = some (.cells #[.int .i64 0, .slice none 0 0] 25 (0, 0)) := by
    rw [hW0]
    have := heap_alloc_new (w.alloc (.cells #[.int .i64 bd, .slice A n c] 25)) (.cells #[.int .i64 0, .slice none 0 0] 25)
    simpa using this
  have hsz : w.heap.size + 2 = W0.heap.size := by rw [hW0]; simp
  have hv0 := hv.keep hBW
  have hcl := clone_calls bd _ l _ hv0
  have HV := Lib.hid hv
  have HN := Lib.hid hn
  have HW0 := Lib.hid hW0
  have HBW := Lib.hid hBW
  have HRB := Lib.hid hrb
  have HV0 := Lib.hid hv0
  have HCL := Lib.hid hcl
  have HSZ := Lib.hid hsz
  clear hv hn hW0 hBW hrb hv0 hcl hsz
  go_enter Tryd.func25, Tryd.ntmps25
  go_upto_region 1 with fail
  rw [← HW0.out]
  go_upto_region 2 with (go_at_call 43; refine HCL.out.mono ?_; rintro e w1 ⟨v1, rfl, hown, hb1⟩; obtain ⟨A1, c1, rfl⟩ := hown.form; rw [← HN.out] at hown ⊢; have HOWN1 := Lib.hid hown; have HB01 := Lib.hid hb1; clear hown hb1)
  have hown := HOWN1.out
  have hb1 := HB01.out
  obtain ⟨W2, hW2⟩ : ∃ W2, W2 = w1.alloc (.cells #[.int .i64 bd, .slice A1 n c1] 25) := ⟨_, rfl⟩
  rw [← hW2]
  have hB2 : Below w1.heap.size w1 W2 := by rw [hW2]; exact belowA (Below.refl _ _) _
  have q30 : W2.cell? ⟨w1.heap.size, 0, none⟩ = some (.int .i64 bd) := by rw [hW2]; simp
  have q31 : W2.cell? ⟨w1.heap.size, 1, none⟩ = some (.slice A1 n c1) := by rw [hW2]; simp
  have hB02 := belowT hb1 hB2
  have q0 := kept hB02 p0
  have q1 := kept hB02 p1
  have hck := check_calls bd _ l _ (HV0.out.keep hB02)
  have hvA : NogoodsAt (hush (w.heap.size + 1) W2) (.slice A1 n c1) l := ((hown.keep hB2).kept (hush_grown _ W2) (fun r e => by injection e with e; have := HSZ.out; omega)).nogoods (by have := HN.out; omega)
  have hvB : NogoodsAt W2 (.slice A1 n c1) l := (hown.keep hB2).nogoods (by have := HN.out; omega)
  have hsz1 : w1.heap.size < W2.heap.size := by rw [hW2]; simp
  have hs01 := hb1.size
  clear hown hb1
  by_cases hz : checkF bd l = 0
  · have hso : reduceC bd l = redP l 0 l := if_pos hz
    obtain ⟨D, hD⟩ : ∃ D, D = redP l 0 l := ⟨_, rfl⟩
    have hDl : D.length ≤ n := by rw [hD, HN.out]; exact redP_len _ _ _
    have hso' : reduceC bd l = D := by rw [hso, hD]
    rw [hz, errV_zero] at hck
    have HCK := Lib.hid hck
    have HSO := Lib.hid hso
    have HD := Lib.hid hD
    have HDL := Lib.hid hDl
    have HZ := Lib.hid hz
    have HW2 := Lib.hid hW2
    have HB2 := Lib.hid hB2
    have HB02 := Lib.hid hB02
    have HVA := Lib.hid hvA
    have HVB := Lib.hid hvB
    have HSO' := Lib.hid hso'
    clear hck hso hD hDl hz hW2 hB2 hB02 hvA hvB hso'
    go_upto_region 4 with (go_at_call 13; refine HCK.out.mono ?_; rintro e w3 ⟨rfl, hb3⟩; have q0 := kept hb3 q0; have q30 := kept hb3 q30; have q31 := kept hb3 q31; have HB1 := Lib.hid hb3; clear hb3)
    go_upto_region 5 with fail
    have hW3b : Below w3.heap.size w3 (w3.alloc (.cells #[.int .i64 bd, .slice none 0 0] 25)) := belowA (Below.refl _ _) _
    have hW3h : (w3.alloc (.cells #[.int .i64 bd, .slice none 0 0] 25)).heap[w3.heap.size]? = some (.cells #[.int .i64 bd, .slice none 0 0] 25 (0, 0)) := heap_alloc_new _ _
    have hW3s : w3.heap.size + 1 ≤ (w3.alloc (.cells #[.int .i64 bd, .slice none 0 0] 25)).heap.size := by simp
    generalize w3.alloc (.cells #[.int .i64 bd, .slice none 0 0] 25) = W3 at hW3b hW3h hW3s ⊢
    have q1' := kept hW3b q31
    have HW3B := Lib.hid hW3b
    have HW3H := Lib.hid hW3h
    clear hW3b hW3h
    go_wp2_with fail
    go_loopg [23] n (fun gh i wr => ∃ (k : Nat) (ov : Value) (acc : List Nogood), k ≤ n ∧ gh = n - k ∧ i = .int .i64 k ∧ Below w3.heap.size w3 wr ∧ w3.heap.size + 1 ≤ wr.heap.size ∧ wr.heap[w3.heap.size]? = some (.cells #[.int .i64 bd, ov] 25 (0, 0)) ∧ OwnR (hush (w.heap.size + 1) W2) wr (w3.heap.size + 1) ov acc ∧ acc.length ≤ k ∧ D = acc ++ redP l k (l.drop k))
    case atStart => exact ⟨0, _, [], Nat.zero_le _, by omega, rfl, HW3B.out, hW3s, HW3H.out, OwnR.nil_ _ _ _, Nat.zero_le _, HD.out⟩
    case round =>
      obtain ⟨k, ov, acc, hk, hg, rfl, hB, hsw, hb3, hown, hal, hF⟩ := hrel
      obtain ⟨wo, rfl⟩ : ∃ wo : World, wo = wr := ⟨_, rfl⟩
      obtain ⟨oA, oc, rfl⟩ := hown.form
      obtain ⟨al, hal2⟩ : ∃ al, al = acc.length := ⟨_, rfl⟩
      rw [← hal2] at hb3 hown hal
      have hBw : Below W2.heap.size W2 wo := belowT HB1.out hB
      have u1 := kept hB q31
      have b30 : wo.cell? ⟨w3.heap.size, 0, none⟩ = some (.int .i64 bd) := by simp [World.cell?, hb3]
      have b31 : wo.cell? ⟨w3.heap.size, 1, none⟩ = some (.slice oA al oc) := by simp [World.cell?, hb3]
      by_cases hlt : k < n
      · obtain ⟨bb, off, xA, xn, xc, x, xd, rfl, c0, hxn, hxm, hxv, c1, hx, hd⟩ := HVA.out.at hlt
        have d0 := kept hBw (hush_cell c0).1
        have d1 := kept hBw (hush_cell c1).1
        have hbr : bb < wo.heap.size := lt_of_cell d0
        obtain ⟨KD, hKD⟩ : ∃ KD, KD = keepP k (x, xd) 0 l true := ⟨_, rfl⟩
        have hst : D = acc ++ (if KD then (x, xd) :: redP l (k + 1) (l.drop (k + 1)) else redP l (k + 1) (l.drop (k + 1))) := by rw [hF, hd, redP, ← hKD]
        have hW5b : Below wo.heap.size wo (wo.alloc (.cells #[.slice xA xn xc, .int .i64 xd] 45)) := belowA (Below.refl _ _) _
        have r0 : (wo.alloc (.cells #[.slice xA xn xc, .int .i64 xd] 45)).cell? ⟨wo.heap.size, 0, none⟩ = some (.slice xA xn xc) := by simp
        have r1 : (wo.alloc (.cells #[.slice xA xn xc, .int .i64 xd] 45)).cell? ⟨wo.heap.size, 1, none⟩ = some (.int .i64 xd) := by simp
        have HG := Lib.hid hg
        have HB := Lib.hid hB
        have HB3 := Lib.hid hb3
        have HOWN := Lib.hid hown
        have HF := Lib.hid hF
        have HAL2 := Lib.hid hal2
        have HBw := Lib.hid hBw
        have C0 := Lib.hid c0
        have C1 := Lib.hid c1
        have HXN := Lib.hid hxn
        have HXV := Lib.hid hxv
        have HX := Lib.hid hx
        have HDD := Lib.hid hd
        have HKD := Lib.hid hKD
        have HST := Lib.hid hst
        clear hg hB hb3 hown hF hal2 hBw c0 c1 hxn hxv hx hd hKD hst
        go_upto_region 9 with fail
        generalize hW5 : wo.alloc (.cells #[.slice xA xn xc, .int .i64 xd] 45) = W5 at hW5b r0 r1 ⊢
        have v1 := kept hW5b u1
        have hB5 := belowT HBw.out hW5b
        have HW5B := Lib.hid hW5b
        have HB5 := Lib.hid hB5
        have HW5 := Lib.hid hW5
        clear hW5b hB5 hW5
        go_wp2_with fail
        go_loopg [7, 8, 9, 10, 31] n (fun g2 kp s8 s9 s10 iv w2 => ∃ (j : Nat) (q : Bool), j ≤ n ∧ g2 = n - j ∧ iv = .int .i64 j ∧ kp = .bool q ∧ Below W5.heap.size W5 w2 ∧ KD = keepP k (x, xd) j (l.drop j) q)
        case atStart => exact ⟨0, true, Nat.zero_le _, by omega, rfl, rfl, Below.refl _ _, HKD.out⟩
        case round =>
          obtain ⟨j, q, hj, hg2, rfl, rfl, hB2, hF2⟩ := hrel
          have t0 := kept hB2 r0
          have t1 := kept hB2 r1
          have hsw5 := HW5B.out.size
          have hw5 := lt_of_cell r0
          have hs2 := hB2.size
          by_cases hlt2 : j < n
          · obtain ⟨_, _, yA, yn, yc, y, yd, hAe, e0, hyn, hym, hyv, e1, hy, hdy⟩ := (HVB.out.keep (belowT HB5.out hB2)).at hlt2
            injection hAe with hAe
            injection hAe with hb_ ho_
            subst hb_ ho_
            have hbr2 : bb < wr.heap.size := lt_of_cell e0
            have hst2 : KD = if skipN k j (x, xd) (y, yd) then keepP k (x, xd) (j + 1) (l.drop (j + 1)) q else keepP k (x, xd) (j + 1) (l.drop (j + 1)) (q && eqN (x, xd) (y, yd) && decide (k < j)) := by rw [hF2, hdy, keepP]
            have hW6b : Below wr.heap.size wr (wr.alloc (.cells #[.slice yA yn yc, .int .i64 yd] 45)) := belowA (Below.refl _ _) _
            have s0 : (wr.alloc (.cells #[.slice yA yn yc, .int .i64 yd] 45)).cell? ⟨wr.heap.size, 0, none⟩ = some (.slice yA yn yc) := by simp
            have s1 : (wr.alloc (.cells #[.slice yA yn yc, .int .i64 yd] 45)).cell? ⟨wr.heap.size, 1, none⟩ = some (.int .i64 yd) := by simp
            have HG2 := Lib.hid hg2
            have HB2 := Lib.hid hB2
            have HF2 := Lib.hid hF2
            have HYN := Lib.hid hyn
            have HYV := Lib.hid hyv
            have HY := Lib.hid hy
            have HDY := Lib.hid hdy
            have HST2 := Lib.hid hst2
            clear hg2 hB2 hF2 hyn hyv hy hdy hst2
            go_upto_region 12 with fail
            generalize hW6 : wr.alloc (.cells #[.slice yA yn yc, .int .i64 yd] 45) = W6 at hW6b s0 s1 ⊢
            have t0' := kept hW6b t0
            have t1' := kept hW6b t1
            have hB6 := belowT HB2.out hW6b
            have hco := Contains_calls _ _ x y W6 ((HXV.out.unhush.keep HB5.out).keep hB6) (HYV.out.keep hW6b)
            have HW6B := Lib.hid hW6b
            have HB6 := Lib.hid hB6
            have HW6 := Lib.hid hW6
            clear hW6b hB6 hW6
            go_cut [53] (fun z wx => z = .bool (skipN k j (x, xd) (y, yd)) ∧ Below W6.heap.size W6 wx)
            case first =>
              by_cases h1 : j = k
              · have hfin : skipN k j (x, xd) (y, yd) = true := by simp [skipN, h1]
                subst h1
                have HCO := Lib.hid hco
                have HFIN := Lib.hid hfin
                clear hco hfin
                go_wp2_with fail
                go_meet
                exact ⟨by rw [HFIN.out], Below.refl _ _⟩
              · have hjk' : ((j : Int) == (k : Int)) = false := by simp; omega
                by_cases h2 : xd < yd
                · have hfin : skipN k j (x, xd) (y, yd) = true := by simp [skipN, h2]
                  have HCO := Lib.hid hco
                  have HFIN := Lib.hid hfin
                  have H1 := Lib.hid h1
                  clear hco hfin h1
                  go_wp2_with fail
                  go_meet
                  exact ⟨by rw [HFIN.out], Below.refl _ _⟩
                · have h2' : decide (yd > xd) = false := by simpa using h2
                  have hfin : skipN k j (x, xd) (y, yd) = !ContainsF x y := by simp [skipN, h1, h2]
                  generalize ContainsF x y = cc at hco hfin
                  have HCO := Lib.hid hco
                  have HFIN := Lib.hid hfin
                  have H1 := Lib.hid h1
                  clear hco hfin h1
                  go_wp2_with (go_at_call 27; refine HCO.out.mono ?_; rintro e w7 ⟨rfl, hb7⟩)
                  go_meet
                  exact ⟨by rw [HFIN.out], hb7⟩
            case rest =>
              obtain ⟨rfl, hB7⟩ := hcut
              clear hco
              cases hsk : skipN k j (x, xd) (y, yd)
              · have hst3 : KD = keepP k (x, xd) (j + 1) (l.drop (j + 1)) (q && eqN (x, xd) (y, yd) && decide (k < j)) := by rw [HST2.out, hsk]; rfl
                have z0 := kept hB7 s0
                have z1 := kept hB7 s1
                have y0 := kept hB7 t0'
                have y1 := kept hB7 t1'
                have hB27 := belowT HB6.out hB7
                have HST3 := Lib.hid hst3
                have HSK := Lib.hid hsk
                have HB7 := Lib.hid hB7
                have HB27 := Lib.hid hB27
                clear hst3 hsk hB7 hB27
                go_upto_region 13 with fail
                go_cut [10] (fun z w8 => z = .bool (eqN (x, xd) (y, yd)) ∧ w8 = wc)
                case first =>
                  by_cases h3 : yd = xd
                  · have hfin : eqN (x, xd) (y, yd) = decide (xn = yn) := by have e1 := HXN.out; have e2 := HYN.out; simp [eqN, h3, e1, e2]
                    subst h3
                    by_cases h4 : xn = yn
                    · have hfin2 : eqN (x, yd) (y, yd) = true := by rw [hfin]; simp [h4]
                      have h4' : ((xn : Int) == (yn : Int)) = true := by simp [h4]
                      have HFIN := Lib.hid hfin
                      have HFIN2 := Lib.hid hfin2
                      clear hfin hfin2
                      subst h4
                      go_wp2_with fail
                      go_meet
                      exact ⟨by rw [HFIN2.out], rfl⟩
                    · have hfin2 : eqN (x, yd) (y, yd) = false := by rw [hfin]; simp [h4]
                      have h4' : ((xn : Int) == (yn : Int)) = false := by simp; omega
                      have HFIN := Lib.hid hfin
                      have HFIN2 := Lib.hid hfin2
                      clear hfin hfin2
                      go_wp2_with fail
                      go_meet
                      exact ⟨by rw [HFIN2.out], rfl⟩
                  · have h3' : (yd == xd) = false := by simpa using h3
                    have hfin : eqN (x, xd) (y, yd) = false := by simp [eqN, h3]
                    have HFIN := Lib.hid hfin
                    clear hfin
                    go_wp2_with fail
                    go_meet
                    exact ⟨by rw [HFIN.out], rfl⟩
                case rest =>
                  obtain ⟨rfl, rfl⟩ := hcut
                  have hst4 := HST3.out
                  generalize eqN (x, xd) (y, yd) = e at hst4 ⊢
                  cases q
                  · rw [Bool.false_and, Bool.false_and] at hst4
                    have HST4 := Lib.hid hst4
                    clear hst4
                    go_wp2_with fail
                    go_roundg (n - (j + 1))
                    case measure => have := HG2.out; omega
                    case rel => exact ⟨j + 1, false, by omega, rfl, by go_num, rfl, HB27.out, HST4.out⟩
                  · cases e
                    · rw [Bool.true_and, Bool.false_and] at hst4
                      have HST4 := Lib.hid hst4
                      clear hst4
                      go_wp2_with fail
                      go_roundg (n - (j + 1))
                      case measure => have := HG2.out; omega
                      case rel => exact ⟨j + 1, false, by omega, rfl, by go_num, rfl, HB27.out, HST4.out⟩
                    · rw [Bool.true_and, Bool.true_and] at hst4
                      have HST4 := Lib.hid hst4
                      clear hst4
                      go_wp2_with fail
                      go_roundg (n - (j + 1))
                      case measure => have := HG2.out; omega
                      case rel => exact ⟨j + 1, decide (k < j), by omega, rfl, by go_num, by simp, HB27.out, HST4.out⟩
              · have hst3 : KD = keepP k (x, xd) (j + 1) (l.drop (j + 1)) q := by rw [HST2.out, hsk]; rfl
                have hB27 := belowT HB6.out hB7
                have HST3 := Lib.hid hst3
                have HSK := Lib.hid hsk
                have HB7 := Lib.hid hB7
                have HB27 := Lib.hid hB27
                clear hst3 hsk hB7 hB27
                go_wp2_with fail
                go_roundg (n - (j + 1))
                case measure => have := HG2.out; omega
                case rel => exact ⟨j + 1, q, by omega, rfl, by go_num, rfl, HB27.out, HST3.out⟩
          · have hfin : KD = q := by rw [hF2, List.drop_eq_nil_of_le (by have := HN.out; omega), keepP]
            have hBo : Below wo.heap.size wo wr := belowT HW5B.out hB2
            have hb3' := hBo.block w3.heap.size (by omega)
            rw [HB3.out] at hb3'
            have g31 : wr.cell? ⟨w3.heap.size, 1, none⟩ = some (.slice oA al oc) := by simp [World.cell?, hb3']
            have hownr := HOWN.out.keep hBo
            have hlen1 : (acc.length + 1) * 32 ≤ 140737488355328 := by have := HAL2.out; omega
            have hbas1 : w3.heap.size + 1 ≤ wr.heap.size := by omega
            have hb1w : Below w3.heap.size w3 wr := belowT HB.out hBo
            have hst1 := HST.out
            rw [hfin] at hst1
            cases q
            · have HFIN := Lib.hid hfin
              have HBO := Lib.hid hBo
              have HB3' := Lib.hid hb3'
              have HOWNR := Lib.hid hownr
              have HLEN1 := Lib.hid hlen1
              have HB1W := Lib.hid hb1w
              have HST1 := Lib.hid hst1
              have HG2 := Lib.hid hg2
              have HB2 := Lib.hid hB2
              have HF2 := Lib.hid hF2
              clear hfin hBo hb3' hownr hlen1 hb1w hst1 hg2 hB2 hF2
              go_wp2_with fail
              go_roundg (n - (k + 1))
              case measure => have := HG.out; omega
              case rel => exact ⟨k + 1, _, acc, by omega, rfl, by go_num, HB1W.out, by omega, HB3'.out, HOWNR.out, by have := HAL2.out; omega, by simpa using HST1.out⟩
            · have HFIN := Lib.hid hfin
              have HBO := Lib.hid hBo
              have HB3' := Lib.hid hb3'
              have HOWNR := Lib.hid hownr
              have HLEN1 := Lib.hid hlen1
              have HB1W := Lib.hid hb1w
              have HST1 := Lib.hid hst1
              have HG2 := Lib.hid hg2
              have HB2 := Lib.hid hB2
              have HF2 := Lib.hid hF2
              clear hfin hBo hb3' hownr hlen1 hb1w hst1 hg2 hB2 hF2
              go_wp2_with (at_builtin; refine wpList_append_nogood rfl (.tmp 80) (.tmp 82) rfl (hush (w.heap.size + 1) W2) wr (w3.heap.size + 1) (.slice oA al oc) acc xA xn xc (x, xd) rfl HOWNR.out rfl HLEN1.out hbas1 HXV.out ?_; intro v5 w5 hown5 hg5; have HB5W := Lib.hid (below_of_grown (base := w3.heap.size + 1) hg5 (by simp; omega) (fun r e => (HOWNR.out.lt r e).1)); have s5 := HB5W.out.block w3.heap.size (by omega); rw [(belowA (Below.refl _ _) _).block _ (by omega), HB3'.out] at s5; have k5 : ∀ j, w5.frozen? ⟨w3.heap.size, j, none⟩ = false := (fun j => (by simp [World.frozen?, s5])); have m5 : w5.cell? ⟨w3.heap.size, 1, none⟩ = some (.slice oA al oc) := (by simp [World.cell?, s5]); obtain ⟨A5, c5, rfl⟩ := hown5.form; obtain ⟨n5, hn5⟩ : ∃ n5, n5 = (acc ++ [(x, xd)]).length := ⟨_, rfl⟩; rw [← hn5] at hown5 ⊢; have HO5 := Lib.hid hown5; have HN5 := Lib.hid hn5; have HS5 := Lib.hid s5; clear hown5 hn5 s5 hg5)
              have hset := set_grown (i := 1) HS5.out (.slice A5 n5 c5)
              have hblk := set_block (i := 1) HS5.out (.slice A5 n5 c5) #[.int .i64 bd, .slice A5 n5 c5] rfl
              go_roundg (n - (k + 1))
              case measure => have := HG.out; omega
              case rel =>
                have b5 : Below w3.heap.size w3 w5 := (belowA HB1W.out _).trans (HB5W.out.mono (by omega))
                refine ⟨k + 1, _, acc ++ [(x, xd)], by omega, rfl, by go_num, b5.trans (below_of_grown hset b5.size (fun g e => by injection e with e; omega)), ?_, hblk, HO5.out.kept hset (fun r e => by injection e with e; omega), by have := HAL2.out; simp; omega, by simpa using HST1.out⟩
                have h1 := HB5W.out.size
                have h2 := hset.size
                simp at h1
                omega
      · have hfin : D = acc := by rw [hF, List.drop_eq_nil_of_le (by have := HN.out; omega), redP]; simp
        have b4 : Below W0.heap.size W0 wo := belowT HB02.out (belowT HB1.out hB)
        have t4 := b4.block (w.heap.size + 1) (by have := HSZ.out; omega)
        rw [HRB.out] at t4
        have m0 : wo.cell? ⟨w.heap.size + 1, 0, none⟩ = some (.int .i64 0) := by simp [World.cell?, t4]
        have m1 : wo.cell? ⟨w.heap.size + 1, 1, none⟩ = some (.slice none 0 0) := by simp [World.cell?, t4]
        have kf : ∀ j, wo.frozen? ⟨w.heap.size + 1, j, none⟩ = false := fun j => by simp [World.frozen?, t4]
        have hwn : ¬ w3.heap.size = w.heap.size + 1 := by have := HSZ.out; have := HB1.out.size; omega
        have hbw0 := belowT HBW.out b4
        have HFIN := Lib.hid hfin
        have HB := Lib.hid hB
        have HB3 := Lib.hid hb3
        have HOWN := Lib.hid hown
        have HF := Lib.hid hF
        have HBw := Lib.hid hBw
        have T4 := Lib.hid t4
        have HAL2 := Lib.hid hal2
        have HG := Lib.hid hg
        have B4 := Lib.hid b4
        have HBW0 := Lib.hid hbw0
        clear hfin hB hb3 hown hF hBw t4 hal2 hg b4 hbw0
        go_wp2_with fail
        have t1 := set_block (i := 0) T4.out (.int .i64 bd) #[.int .i64 bd, .slice none 0 0] rfl
        have t2 := set_block (i := 1) t1 (.slice oA al oc) #[.int .i64 bd, .slice oA al oc] rfl
        have gg := World.grownBy.trans (set_grown (i := 0) T4.out (.int .i64 bd)) (set_grown (i := 1) t1 (.slice oA al oc))
        generalize (wo.setCell ⟨w.heap.size + 1, 0, none⟩ (.int .i64 bd)).setCell ⟨w.heap.size + 1, 1, none⟩ (.slice oA al oc) = wf at t2 gg ⊢
        have e0 : wf.cell? ⟨w.heap.size + 1, 0, none⟩ = some (.int .i64 bd) := by simp [World.cell?, t2]
        have e1 : wf.cell? ⟨w.heap.size + 1, 1, none⟩ = some (.slice oA al oc) := by simp [World.cell?, t2]
        have hbf : Below w.heap.size w wf := HBW0.out.trans (below_of_grown gg HBW0.out.size (fun g hg => by injection hg with hg; omega))
        have hg2 : W2.grownBy wf (some (w.heap.size + 1)) := World.grownBy.trans (grown_of_below HBw.out _) gg
        have hh2 : W2.heap[w.heap.size + 1]? = some (.cells #[.int .i64 0, .slice none 0 0] 25 (0, 0)) := by rw [HB02.out.block _ (by have := HSZ.out; omega), HRB.out]
        refine bodyPost_ret (v := .agg #[.int .i64 bd, .slice oA al oc]) (by simp [results, Tryd.results25, go_sem, e0, e1]) rfl ⟨_, rfl, ?_, hbf⟩
        rw [HSO'.out, HFIN.out]
        exact (HOWN.out.kept gg (fun r e => by injection e with e; have := HSZ.out; have := HB1.out.size; omega)).nogoodsG (fun _ _ hf => (hf.keep (hush_below hg2 hh2 t2)).unhush) (by have := HAL2.out; omega)
  · have hso : reduceC bd l = l := if_neg hz
    obtain ⟨z, hzz⟩ : ∃ z, checkF bd l = z := ⟨_, rfl⟩
    rw [hzz] at hck hz
    rw [errV_ne hz] at hck
    clear hvA
    have HW2 := Lib.hid hW2
    have HB2 := Lib.hid hB2
    have HB02 := Lib.hid hB02
    have HCK := Lib.hid hck
    have HZ := Lib.hid hz
    have HSO := Lib.hid hso
    have HZZ := Lib.hid hzz
    clear hW2 hB2 hB02 hck hz hso hzz
    go_upto_region 3 with (go_at_call 13; refine HCK.out.mono ?_; rintro e w3 ⟨rfl, hb3⟩)
    have k0 := kept hb3 q30
    have k1 := kept hb3 q31
    have b04 : Below W0.heap.size W0 w3 := belowT HB02.out hb3
    have t4 := b04.block (w.heap.size + 1) (by have := HSZ.out; omega)
    rw [HRB.out] at t4
    have m0 : w3.cell? ⟨w.heap.size + 1, 0, none⟩ = some (.int .i64 0) := by simp [World.cell?, t4]
    have m1 : w3.cell? ⟨w.heap.size + 1, 1, none⟩ = some (.slice none 0 0) := by simp [World.cell?, t4]
    have kf : ∀ j, w3.frozen? ⟨w.heap.size + 1, j, none⟩ = false := fun j => by simp [World.frozen?, t4]
    have bw := belowT HBW.out b04
    have hown4 : OwnN w3 W0.heap.size (.slice A1 n c1) l := (HOWN1.out.keep HB2.out).keep hb3
    have HOWN4 := Lib.hid hown4
    have HB3 := Lib.hid hb3
    have B04 := Lib.hid b04
    have T4 := Lib.hid t4
    have BW := Lib.hid bw
    have HVB := Lib.hid hvB
    clear hown4 hb3 b04 t4 bw hvB
    go_wp2_with fail
    have t1 := set_block (i := 0) T4.out (.int .i64 bd) #[.int .i64 bd, .slice none 0 0] rfl
    have t2 := set_block (i := 1) t1 (.slice A1 n c1) #[.int .i64 bd, .slice A1 n c1] rfl
    have gg := World.grownBy.trans (set_grown (i := 0) T4.out (.int .i64 bd)) (set_grown (i := 1) t1 (.slice A1 n c1))
    generalize (w3.setCell ⟨w.heap.size + 1, 0, none⟩ (.int .i64 bd)).setCell ⟨w.heap.size + 1, 1, none⟩ (.slice A1 n c1) = wf at t2 gg ⊢
    have e0 : wf.cell? ⟨w.heap.size + 1, 0, none⟩ = some (.int .i64 bd) := by simp [World.cell?, t2]
    have e1 : wf.cell? ⟨w.heap.size + 1, 1, none⟩ = some (.slice A1 n c1) := by simp [World.cell?, t2]
    have hbf : Below w.heap.size w wf := BW.out.trans (below_of_grown gg BW.out.size (fun g hg => by injection hg with hg; omega))
    refine bodyPost_ret (v := .agg #[.int .i64 bd, .slice A1 n c1]) (by simp [results, Tryd.results25, go_sem, e0, e1]) rfl ⟨_, rfl, ?_, hbf⟩
    rw [HSO.out]
    exact (HOWN4.out.kept gg (fun r e => by injection e with e; have := HSZ.out; omega)).nogoods (by have := HN.out; omega)
end Go.Proofs.YticdfbhbbapbdaaDoor
