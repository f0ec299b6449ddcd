/- stratagemref30.Reduce. -/
import Derived.Test.YticdfbhbbapbdaaDoorRowR
import Derived.Test.YticdfbhbbapbdaaDoorRCheck
import Derived.Test.YticdfbhbbapbdaaDoorContains
namespace Go.Proofs.YticdfbhbbapbdaaDoor
open Go.RowKit

def skipN (i k : Nat) (a b : Nogood) : Bool := decide (k = i) || decide (a.2 < b.2) || !ContainsF a.1 b.1
def badR (i k : Nat) (a b : Nogood) : Bool := decide (b.2 < a.2) || decide (b.1.length < a.1.length) || decide (k < i)
def keepR (i : Nat) (a : Nogood) : Nat → List Nogood → Bool → Bool
  | _, [], q => q
  | k, b :: r, q => if skipN i k a b then keepR i a (k + 1) r q else keepR i a (k + 1) r (if badR i k a b then false else q)
def redR (l : List Nogood) : Nat → List Nogood → List Nogood
  | _, [] => []
  | i, a :: r => if keepR i a 0 l true then a :: redR l (i + 1) r else redR l (i + 1) r
theorem redR_len (l r : List Nogood) : ∀ i, (redR l i r).length ≤ r.length := by
  induction r with
  | nil => intro i; simp [redR]
  | cons a r ih =>
    intro i
    have := ih (i + 1)
    rw [redR]
    split <;> simp <;> omega
def rreduceC (bd : Int) (l : List Nogood) : List Nogood := if checkF bd l = 0 then redR l 0 l else l

set_option maxHeartbeats 8000000 in
set_option maxRecDepth 100000 in
theorem rreduce_calls (bd : Int) (v : Value) (l : List Nogood) (w : World) (hv : NogoodsAt w v l) :
    Calls Tryd.prog 26 #[.agg #[.int .i64 bd, v]] w fun e w' => ∃ v', e = .returned (.agg #[.int .i64 bd, v']) ∧ NogoodsAt w' v' (rreduceC bd l) ∧ Below w.heap.size w w' := by
  obtain ⟨A, n, c, rfl, hn, hm⟩ := hv.form
  have hroom : n * 32 ≤ 140737488355328 := by obtain ⟨_, _, hv', hl, _⟩ := id hv; injection hv' with _ h2 _; omega
  obtain ⟨W0, hW0⟩ : ∃ W0, W0 = (w.alloc (.cells #[.int .i64 bd, .slice A n c] 25)).alloc (.cells #[.int .i64 0, .slice none 0 0] 25) := ⟨_, rfl⟩
  have hBW : Below w.heap.size w W0 := by rw [hW0]; exact belowA (belowA (Below.refl _ _) _) _
  have p0 : W0.cell? ⟨w.heap.size, 0, none⟩ = some (.int .i64 bd) := by rw [hW0]; simp
  have p1 : W0.cell? ⟨w.heap.size, 1, none⟩ = some (.slice A n c) := by rw [hW0]; simp
  have hrb : W0.heap[w.heap.size + 1]? = some (.cells #[.int .i64 0, .slice none 0 0] 25 (0, 0)) := by
    rw [hW0]
    have := heap_alloc_new (w.alloc (.cells #[.int .i64 bd, .slice A n c] 25)) (.cells #[.int .i64 0, .slice none 0 0] 25)
    simpa using this
  have hsz : w.heap.size + 2 = W0.heap.size := by rw [hW0]; simp
  have hv0 := hv.keep hBW
  have hck := rcheck_calls bd _ l _ hv0
  by_cases hz : checkF bd l = 0
  · have hso : rreduceC bd l = redR l 0 l := if_pos hz
    obtain ⟨D, hD⟩ : ∃ D, D = redR l 0 l := ⟨_, rfl⟩
    have hDl : D.length ≤ n := by rw [hD, hn]; exact redR_len _ _ _
    rw [hz] at hck
    rw [hso, ← hD]
    have HV := Lib.hid hv
    have HN := Lib.hid hn
    have HW0 := Lib.hid hW0
    have HBW := Lib.hid hBW
    have HRB := Lib.hid hrb
    have HV0 := Lib.hid hv0
    have HSZ := Lib.hid hsz
    have HCK := Lib.hid hck
    have HSO := Lib.hid hso
    have HD := Lib.hid hD
    have HDL := Lib.hid hDl
    have HZ := Lib.hid hz
    clear hv hn hW0 hBW hrb hv0 hsz hck hso hD hDl hz
    go_enter Tryd.func26, Tryd.ntmps26
    go_upto_region 1 with fail
    rw [← HW0.out]
    go_upto_region 4 with (go_at_call 14; refine HCK.out.mono ?_; rintro e w1 ⟨rfl, hb1⟩; have q0 := kept hb1 p0; have q1 := kept hb1 p1; have HB1 := Lib.hid hb1; clear hb1)
    have hW3b : Below w1.heap.size w1 (w1.alloc (.cells #[.int .i64 bd, .slice none 0 0] 25)) := belowA (Below.refl _ _) _
    have hW3h : (w1.alloc (.cells #[.int .i64 bd, .slice none 0 0] 25)).heap[w1.heap.size]? = some (.cells #[.int .i64 bd, .slice none 0 0] 25 (0, 0)) := heap_alloc_new _ _
    have hW3s : w1.heap.size + 1 ≤ (w1.alloc (.cells #[.int .i64 bd, .slice none 0 0] 25)).heap.size := by simp
    generalize w1.alloc (.cells #[.int .i64 bd, .slice none 0 0] 25) = W3 at hW3b hW3h hW3s ⊢
    have q0' := kept hW3b q0
    have q1' := kept hW3b q1
    have HW3B := Lib.hid hW3b
    have HW3H := Lib.hid hW3h
    clear hW3b hW3h
    go_wp2_with fail
    go_loopg [19] n (fun gh i wr => ∃ (k : Nat) (ov : Value) (acc : List Nogood), k ≤ n ∧ gh = n - k ∧ i = .int .i64 k ∧ Below w1.heap.size w1 wr ∧ w1.heap.size + 1 ≤ wr.heap.size ∧ wr.heap[w1.heap.size]? = some (.cells #[.int .i64 bd, ov] 25 (0, 0)) ∧ OwnR w wr (w1.heap.size + 1) ov acc ∧ acc.length ≤ k ∧ D = acc ++ redR l k (l.drop k))
    case atStart => exact ⟨0, _, [], Nat.zero_le _, by omega, rfl, HW3B.out, hW3s, HW3H.out, OwnR.nil_ _ _ _, Nat.zero_le _, HD.out⟩
    case round =>
      obtain ⟨k, ov, acc, hk, hg, rfl, hB, hsw, hb3, hown, hal, hF⟩ := hrel
      obtain ⟨wo, rfl⟩ : ∃ wo : World, wo = wr := ⟨_, rfl⟩
      obtain ⟨oA, oc, rfl⟩ := hown.form
      obtain ⟨al, hal2⟩ : ∃ al, al = acc.length := ⟨_, rfl⟩
      rw [← hal2] at hb3 hown hal
      have hBw : Below w.heap.size w wo := belowT HBW.out (belowT HB1.out hB)
      have u1 := kept hB q1
      have b30 : wo.cell? ⟨w1.heap.size, 0, none⟩ = some (.int .i64 bd) := by simp [World.cell?, hb3]
      have b31 : wo.cell? ⟨w1.heap.size, 1, none⟩ = some (.slice oA al oc) := by simp [World.cell?, hb3]
      by_cases hlt : k < n
      · obtain ⟨bb, off, xA, xn, xc, x, xd, rfl, c0, hxn, hxm, hxv, c1, hx, hd⟩ := HV.out.at hlt
        have d0 := kept hBw c0
        have d1 := kept hBw c1
        have hbr : bb < wo.heap.size := lt_of_cell d0
        obtain ⟨KD, hKD⟩ : ∃ KD, KD = keepR k (x, xd) 0 l true := ⟨_, rfl⟩
        have hst : D = acc ++ (if KD then (x, xd) :: redR l (k + 1) (l.drop (k + 1)) else redR l (k + 1) (l.drop (k + 1))) := by rw [hF, hd, redR, ← hKD]
        have hW5b : Below wo.heap.size wo (wo.alloc (.cells #[.slice xA xn xc, .int .i64 xd] 45)) := belowA (Below.refl _ _) _
        have r0 : (wo.alloc (.cells #[.slice xA xn xc, .int .i64 xd] 45)).cell? ⟨wo.heap.size, 0, none⟩ = some (.slice xA xn xc) := by simp
        have r1 : (wo.alloc (.cells #[.slice xA xn xc, .int .i64 xd] 45)).cell? ⟨wo.heap.size, 1, none⟩ = some (.int .i64 xd) := by simp
        have HG := Lib.hid hg
        have HB := Lib.hid hB
        have HB3 := Lib.hid hb3
        have HOWN := Lib.hid hown
        have HF := Lib.hid hF
        have HAL2 := Lib.hid hal2
        have HBw := Lib.hid hBw
        have C0 := Lib.hid c0
        have C1 := Lib.hid c1
        have HXN := Lib.hid hxn
        have HXV := Lib.hid hxv
        have HX := Lib.hid hx
        have HDD := Lib.hid hd
        have HKD := Lib.hid hKD
        have HST := Lib.hid hst
        clear hg hB hb3 hown hF hal2 hBw c0 c1 hxn hxv hx hd hKD hst
        go_upto_region 8 with fail
        generalize hW5 : wo.alloc (.cells #[.slice xA xn xc, .int .i64 xd] 45) = W5 at hW5b r0 r1 ⊢
        have v1 := kept hW5b u1
        have hB5 := belowT HBw.out hW5b
        have HW5B := Lib.hid hW5b
        have HB5 := Lib.hid hB5
        have HW5 := Lib.hid hW5
        clear hW5b hB5 hW5
        go_wp2_with fail
        go_loopg [6, 7, 8, 27] n (fun g2 kp s7 s8 iv w2 => ∃ (j : Nat) (q : Bool), j ≤ n ∧ g2 = n - j ∧ iv = .int .i64 j ∧ kp = .bool q ∧ Below W5.heap.size W5 w2 ∧ KD = keepR k (x, xd) j (l.drop j) q)
        case atStart => exact ⟨0, true, Nat.zero_le _, by omega, rfl, rfl, Below.refl _ _, HKD.out⟩
        case round =>
          obtain ⟨j, q, hj, hg2, rfl, rfl, hB2, hF2⟩ := hrel
          have t0 := kept hB2 r0
          have t1 := kept hB2 r1
          have hsw5 := HW5B.out.size
          have hw5 := lt_of_cell r0
          have hs2 := hB2.size
          by_cases hlt2 : j < n
          · obtain ⟨_, _, yA, yn, yc, y, yd, hAe, e0, hyn, hym, hyv, e1, hy, hdy⟩ := (HV.out.keep (belowT HB5.out hB2)).at hlt2
            injection hAe with hAe
            injection hAe with hb_ ho_
            subst hb_ ho_
            have hbr2 : bb < wr.heap.size := lt_of_cell e0
            have hst2 : KD = if skipN k j (x, xd) (y, yd) then keepR k (x, xd) (j + 1) (l.drop (j + 1)) q else keepR k (x, xd) (j + 1) (l.drop (j + 1)) (if badR k j (x, xd) (y, yd) then false else q) := by rw [hF2, hdy, keepR]
            have hW6b : Below wr.heap.size wr (wr.alloc (.cells #[.slice yA yn yc, .int .i64 yd] 45)) := belowA (Below.refl _ _) _
            have s0 : (wr.alloc (.cells #[.slice yA yn yc, .int .i64 yd] 45)).cell? ⟨wr.heap.size, 0, none⟩ = some (.slice yA yn yc) := by simp
            have s1 : (wr.alloc (.cells #[.slice yA yn yc, .int .i64 yd] 45)).cell? ⟨wr.heap.size, 1, none⟩ = some (.int .i64 yd) := by simp
            have HG2 := Lib.hid hg2
            have HB2 := Lib.hid hB2
            have HF2 := Lib.hid hF2
            have HYN := Lib.hid hyn
            have HYV := Lib.hid hyv
            have HY := Lib.hid hy
            have HDY := Lib.hid hdy
            have HST2 := Lib.hid hst2
            clear hg2 hB2 hF2 hyn hyv hy hdy hst2
            go_upto_region 11 with fail
            generalize hW6 : wr.alloc (.cells #[.slice yA yn yc, .int .i64 yd] 45) = W6 at hW6b s0 s1 ⊢
            have t0' := kept hW6b t0
            have t1' := kept hW6b t1
            have hB6 := belowT HB2.out hW6b
            have hco := rContains_calls _ _ x y W6 ((HXV.out.keep HB5.out).keep hB6) (HYV.out.keep hW6b)
            have HW6B := Lib.hid hW6b
            have HB6 := Lib.hid hB6
            have HW6 := Lib.hid hW6
            clear hW6b hB6 hW6
            go_cut [49] (fun z wx => z = .bool (skipN k j (x, xd) (y, yd)) ∧ Below W6.heap.size W6 wx)
            case first =>
              by_cases h1 : j = k
              · have hfin : skipN k j (x, xd) (y, yd) = true := by simp [skipN, h1]
                subst h1
                have HCO := Lib.hid hco
                have HFIN := Lib.hid hfin
                clear hco hfin
                go_wp2_with fail
                go_meet
                exact ⟨by rw [HFIN.out], Below.refl _ _⟩
              · have hjk' : ((j : Int) == (k : Int)) = false := by simp; omega
                by_cases h2 : xd < yd
                · have hfin : skipN k j (x, xd) (y, yd) = true := by simp [skipN, h2]
                  have HCO := Lib.hid hco
                  have HFIN := Lib.hid hfin
                  have H1 := Lib.hid h1
                  clear hco hfin h1
                  go_wp2_with fail
                  go_meet
                  exact ⟨by rw [HFIN.out], Below.refl _ _⟩
                · have h2' : decide (yd > xd) = false := by simpa using h2
                  have hfin : skipN k j (x, xd) (y, yd) = !ContainsF x y := by simp [skipN, h1, h2]
                  generalize ContainsF x y = cc at hco hfin
                  have HCO := Lib.hid hco
                  have HFIN := Lib.hid hfin
                  have H1 := Lib.hid h1
                  clear hco hfin h1
                  go_wp2_with (go_at_call 50; refine HCO.out.mono ?_; rintro e w7 ⟨rfl, hb7⟩)
                  go_meet
                  exact ⟨by rw [HFIN.out], hb7⟩
            case rest =>
              obtain ⟨rfl, hB7⟩ := hcut
              clear hco
              cases hsk : skipN k j (x, xd) (y, yd)
              · have hst3 : KD = keepR k (x, xd) (j + 1) (l.drop (j + 1)) (if badR k j (x, xd) (y, yd) then false else q) := by rw [HST2.out, hsk]; rfl
                have z0 := kept hB7 s0
                have z1 := kept hB7 s1
                have y0 := kept hB7 t0'
                have y1 := kept hB7 t1'
                have hB27 := belowT HB6.out hB7
                have HST3 := Lib.hid hst3
                have HSK := Lib.hid hsk
                have HB7 := Lib.hid hB7
                have HB27 := Lib.hid hB27
                clear hst3 hsk hB7 hB27
                go_upto_region 12 with fail
                go_cut [68] (fun z w8 => z = .bool (badR k j (x, xd) (y, yd)) ∧ w8 = wc)
                case first =>
                  by_cases h3 : yd < xd
                  · have hfin : badR k j (x, xd) (y, yd) = true := by simp [badR, h3]
                    have HFIN := Lib.hid hfin
                    clear hfin
                    go_wp2_with fail
                    go_meet
                    exact ⟨by rw [HFIN.out], rfl⟩
                  · have h3' : decide (yd < xd) = false := by simpa using h3
                    by_cases h4 : yn < xn
                    · have hfin : badR k j (x, xd) (y, yd) = true := by have e1 := HXN.out; have e2 := HYN.out; have : y.length < x.length := by omega
                                                                        simp [badR, this]
                      have HFIN := Lib.hid hfin
                      clear hfin
                      go_wp2_with fail
                      go_meet
                      exact ⟨by rw [HFIN.out], rfl⟩
                    · have h4' : decide ((yn : Int) < (xn : Int)) = false := by simp; omega
                      have hfin : badR k j (x, xd) (y, yd) = decide (j < k) := by
                        have e1 := HXN.out
                        have e2 := HYN.out
                        have e3 : ¬ y.length < x.length := by omega
                        have e4 : ¬ yd < xd := by simpa using h3'
                        simp [badR, e3, e4]
                      have HFIN := Lib.hid hfin
                      clear hfin
                      go_wp2_with fail
                      go_meet
                      exact ⟨by rw [HFIN.out], rfl⟩
                case rest =>
                  obtain ⟨rfl, rfl⟩ := hcut
                  cases hbad : badR k j (x, xd) (y, yd)
                  · have hst4 : KD = keepR k (x, xd) (j + 1) (l.drop (j + 1)) q := by rw [HST3.out, hbad]; rfl
                    have HST4 := Lib.hid hst4
                    clear hst4
                    go_wp2_with fail
                    go_roundg (n - (j + 1))
                    case measure => have := HG2.out; omega
                    case rel => exact ⟨j + 1, q, by omega, rfl, by go_num, rfl, HB27.out, HST4.out⟩
                  · have hst4 : KD = keepR k (x, xd) (j + 1) (l.drop (j + 1)) false := by rw [HST3.out, hbad]; rfl
                    have HST4 := Lib.hid hst4
                    clear hst4
                    go_wp2_with fail
                    go_roundg (n - (j + 1))
                    case measure => have := HG2.out; omega
                    case rel => exact ⟨j + 1, false, by omega, rfl, by go_num, rfl, HB27.out, HST4.out⟩
              · have hst3 : KD = keepR k (x, xd) (j + 1) (l.drop (j + 1)) q := by rw [HST2.out, hsk]; rfl
                have hB27 := belowT HB6.out hB7
                have HST3 := Lib.hid hst3
                have HSK := Lib.hid hsk
                have HB7 := Lib.hid hB7
                have HB27 := Lib.hid hB27
                clear hst3 hsk hB7 hB27
                go_wp2_with fail
                go_roundg (n - (j + 1))
                case measure => have := HG2.out; omega
                case rel => exact ⟨j + 1, q, by omega, rfl, by go_num, rfl, HB27.out, HST3.out⟩
          · have hfin : KD = q := by rw [hF2, List.drop_eq_nil_of_le (by have := HN.out; omega), keepR]
            have hBo : Below wo.heap.size wo wr := belowT HW5B.out hB2
            have hb3' := hBo.block w1.heap.size (by omega)
            rw [HB3.out] at hb3'
            have g31 : wr.cell? ⟨w1.heap.size, 1, none⟩ = some (.slice oA al oc) := by simp [World.cell?, hb3']
            have hownr := HOWN.out.keep hBo
            have hlen1 : (acc.length + 1) * 32 ≤ 140737488355328 := by have := HAL2.out; omega
            have hbas1 : w1.heap.size + 1 ≤ wr.heap.size := by omega
            have hb1w : Below w1.heap.size w1 wr := belowT HB.out hBo
            have hst1 := HST.out
            rw [hfin] at hst1
            cases q
            · have HFIN := Lib.hid hfin
              have HBO := Lib.hid hBo
              have HB3' := Lib.hid hb3'
              have HOWNR := Lib.hid hownr
              have HLEN1 := Lib.hid hlen1
              have HB1W := Lib.hid hb1w
              have HST1 := Lib.hid hst1
              have HG2 := Lib.hid hg2
              have HB2 := Lib.hid hB2
              have HF2 := Lib.hid hF2
              clear hfin hBo hb3' hownr hlen1 hb1w hst1 hg2 hB2 hF2
              go_wp2_with fail
              go_roundg (n - (k + 1))
              case measure => have := HG.out; omega
              case rel => exact ⟨k + 1, _, acc, by omega, rfl, by go_num, HB1W.out, by omega, HB3'.out, HOWNR.out, by have := HAL2.out; omega, by simpa using HST1.out⟩
            · have HFIN := Lib.hid hfin
              have HBO := Lib.hid hBo
              have HB3' := Lib.hid hb3'
              have HOWNR := Lib.hid hownr
              have HLEN1 := Lib.hid hlen1
              have HB1W := Lib.hid hb1w
              have HST1 := Lib.hid hst1
              have HG2 := Lib.hid hg2
              have HB2 := Lib.hid hB2
              have HF2 := Lib.hid hF2
              clear hfin hBo hb3' hownr hlen1 hb1w hst1 hg2 hB2 hF2
              go_wp2_with (at_builtin; refine wpList_append_nogood rfl (.tmp 72) (.tmp 74) rfl w wr (w1.heap.size + 1) (.slice oA al oc) acc xA xn xc (x, xd) rfl HOWNR.out rfl HLEN1.out hbas1 HXV.out ?_; intro v5 w5 hown5 hg5; have HB5W := Lib.hid (below_of_grown (base := w1.heap.size + 1) hg5 (by simp; omega) (fun r e => (HOWNR.out.lt r e).1)); have s5 := HB5W.out.block w1.heap.size (by omega); rw [(belowA (Below.refl _ _) _).block _ (by omega), HB3'.out] at s5; have k5 : ∀ j, w5.frozen? ⟨w1.heap.size, j, none⟩ = false := (fun j => (by simp [World.frozen?, s5])); have m5 : w5.cell? ⟨w1.heap.size, 1, none⟩ = some (.slice oA al oc) := (by simp [World.cell?, s5]); obtain ⟨A5, c5, rfl⟩ := hown5.form; obtain ⟨n5, hn5⟩ : ∃ n5, n5 = (acc ++ [(x, xd)]).length := ⟨_, rfl⟩; rw [← hn5] at hown5 ⊢; have HO5 := Lib.hid hown5; have HN5 := Lib.hid hn5; have HS5 := Lib.hid s5; clear hown5 hn5 s5 hg5)
              have hset := set_grown (i := 1) HS5.out (.slice A5 n5 c5)
              have hblk := set_block (i := 1) HS5.out (.slice A5 n5 c5) #[.int .i64 bd, .slice A5 n5 c5] rfl
              go_roundg (n - (k + 1))
              case measure => have := HG.out; omega
              case rel =>
                have b5 : Below w1.heap.size w1 w5 := (belowA HB1W.out _).trans (HB5W.out.mono (by omega))
                refine ⟨k + 1, _, acc ++ [(x, xd)], by omega, rfl, by go_num, b5.trans (below_of_grown hset b5.size (fun g e => by injection e with e; omega)), ?_, hblk, HO5.out.kept hset (fun r e => by injection e with e; omega), by have := HAL2.out; simp; omega, by simpa using HST1.out⟩
                have h1 := HB5W.out.size
                have h2 := hset.size
                simp at h1
                omega
      · have hfin : D = acc := by rw [hF, List.drop_eq_nil_of_le (by have := HN.out; omega), redR]; simp
        have b4 : Below W0.heap.size W0 wo := belowT HB1.out hB
        have t4 := b4.block (w.heap.size + 1) (by have := HSZ.out; omega)
        rw [HRB.out] at t4
        have m0 : wo.cell? ⟨w.heap.size + 1, 0, none⟩ = some (.int .i64 0) := by simp [World.cell?, t4]
        have m1 : wo.cell? ⟨w.heap.size + 1, 1, none⟩ = some (.slice none 0 0) := by simp [World.cell?, t4]
        have kf : ∀ j, wo.frozen? ⟨w.heap.size + 1, j, none⟩ = false := fun j => by simp [World.frozen?, t4]
        have hwn : ¬ w1.heap.size = w.heap.size + 1 := by have := HSZ.out; have := HB1.out.size; omega
        have HFIN := Lib.hid hfin
        have HB := Lib.hid hB
        have HB3 := Lib.hid hb3
        have HOWN := Lib.hid hown
        have HF := Lib.hid hF
        have HBw := Lib.hid hBw
        have T4 := Lib.hid t4
        have HAL2 := Lib.hid hal2
        have HG := Lib.hid hg
        have B4 := Lib.hid b4
        clear hfin hB hb3 hown hF hBw t4 hal2 hg b4
        go_wp2_with fail
        have t1 := set_block (i := 0) T4.out (.int .i64 bd) #[.int .i64 bd, .slice none 0 0] rfl
        have t2 := set_block (i := 1) t1 (.slice oA al oc) #[.int .i64 bd, .slice oA al oc] rfl
        have gg := World.grownBy.trans (set_grown (i := 0) T4.out (.int .i64 bd)) (set_grown (i := 1) t1 (.slice oA al oc))
        generalize (wo.setCell ⟨w.heap.size + 1, 0, none⟩ (.int .i64 bd)).setCell ⟨w.heap.size + 1, 1, none⟩ (.slice oA al oc) = wf at t2 gg ⊢
        have e0 : wf.cell? ⟨w.heap.size + 1, 0, none⟩ = some (.int .i64 bd) := by simp [World.cell?, t2]
        have e1 : wf.cell? ⟨w.heap.size + 1, 1, none⟩ = some (.slice oA al oc) := by simp [World.cell?, t2]
        have hbf : Below w.heap.size w wf := HBw.out.trans (below_of_grown gg HBw.out.size (fun g hg => by injection hg with hg; omega))
        refine bodyPost_ret (v := .agg #[.int .i64 bd, .slice oA al oc]) (by simp [results, Tryd.results26, go_sem, e0, e1]) rfl ⟨_, rfl, ?_, hbf⟩
        rw [HFIN.out]
        exact (HOWN.out.kept gg (fun r e => by injection e with e; have := HSZ.out; have := HB1.out.size; omega)).nogoods hbf (by have := HAL2.out; omega)
  · have hso : rreduceC bd l = l := if_neg hz
    rw [hso]
    obtain ⟨z, hzz⟩ : ∃ z, z = checkF bd l := ⟨_, rfl⟩
    rw [← hzz] at hck hz
    have hzb : (z != 0) = true := by simpa using hz
    have HV := Lib.hid hv
    have HN := Lib.hid hn
    have HW0 := Lib.hid hW0
    have HBW := Lib.hid hBW
    have HRB := Lib.hid hrb
    have HV0 := Lib.hid hv0
    have HSZ := Lib.hid hsz
    have HCK := Lib.hid hck
    have HSO := Lib.hid hso
    have HZ := Lib.hid hz
    have HZZ := Lib.hid hzz
    clear hv hn hW0 hBW hrb hv0 hsz hck hso hz hzz
    go_enter Tryd.func26, Tryd.ntmps26
    go_upto_region 1 with fail
    rw [← HW0.out]
    go_upto_region 2 with (go_at_call 14; refine HCK.out.mono ?_; rintro e w1 ⟨rfl, hb1⟩; have q0 := kept hb1 p0; have q1 := kept hb1 p1; have HB1 := Lib.hid hb1; clear hb1)
    have t4 := HB1.out.block (w.heap.size + 1) (by have := HSZ.out; omega)
    rw [HRB.out] at t4
    have m0 : w1.cell? ⟨w.heap.size + 1, 0, none⟩ = some (.int .i64 0) := by simp [World.cell?, t4]
    have m1 : w1.cell? ⟨w.heap.size + 1, 1, none⟩ = some (.slice none 0 0) := by simp [World.cell?, t4]
    have kf : ∀ j, w1.frozen? ⟨w.heap.size + 1, j, none⟩ = false := fun j => by simp [World.frozen?, t4]
    have T4 := Lib.hid t4
    clear t4
    go_wp2_with fail
    have t1 := set_block (i := 0) T4.out (.int .i64 bd) #[.int .i64 bd, .slice none 0 0] rfl
    have t2 := set_block (i := 1) t1 (.slice A n c) #[.int .i64 bd, .slice A n c] rfl
    have gg := World.grownBy.trans (set_grown (i := 0) T4.out (.int .i64 bd)) (set_grown (i := 1) t1 (.slice A n c))
    generalize (w1.setCell ⟨w.heap.size + 1, 0, none⟩ (.int .i64 bd)).setCell ⟨w.heap.size + 1, 1, none⟩ (.slice A n c) = wf at t2 gg ⊢
    have e0 : wf.cell? ⟨w.heap.size + 1, 0, none⟩ = some (.int .i64 bd) := by simp [World.cell?, t2]
    have e1 : wf.cell? ⟨w.heap.size + 1, 1, none⟩ = some (.slice A n c) := by simp [World.cell?, t2]
    have hbw1 := belowT HBW.out HB1.out
    have hbf : Below w.heap.size w wf := hbw1.trans (below_of_grown gg hbw1.size (fun g hg => by injection hg with hg; omega))
    exact bodyPost_ret (v := .agg #[.int .i64 bd, .slice A n c]) (by simp [results, Tryd.results26, go_sem, e0, e1]) rfl ⟨_, rfl, HV.out.keep hbf, hbf⟩
end Go.Proofs.YticdfbhbbapbdaaDoor
