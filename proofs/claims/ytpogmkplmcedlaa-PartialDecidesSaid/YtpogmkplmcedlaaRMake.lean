/- stratagemref06.Make. -/
import Derived.Test.YtpogmkplmcedlaaWith
namespace Go.Proofs.Ytpogmkplmcedlaa
open Go.RowKit

def negR (x : Fact) : Bool := decide (x.1 < 0) || decide (x.2 < 0)
def rmakeL : List Fact → List Fact → List Fact × Int
  | acc, [] => (acc, 0)
  | acc, x :: r => if 0 ≤ valueF acc x.1 ∧ valueF acc x.1 ≠ x.2 then ([], 2) else if valueF acc x.1 < 0 then rmakeL (withF acc x) r else rmakeL acc r
def rmakeF (l : List Fact) : List Fact × Int := if l.any negR then ([], 1) else rmakeL [] l
theorem withL_len (x : Fact) (l : List Fact) : ∀ (p : Bool) (acc : List Fact), (withL x p acc l).length = acc.length + l.length + (if p then 0 else 1) := by
  induction l with
  | nil => intro p acc; rw [withL]; cases p <;> simp
  | cons y r ih =>
    intro p acc
    rw [withL]
    split
    · rename_i h
      have hp : p = false := by cases p <;> simp_all
      subst hp
      rw [ih]; simp; omega
    · rw [ih]; simp; omega
theorem withF_len (l : List Fact) (x : Fact) : (withF l x).length = l.length + 1 := by rw [withF, withL_len]; simp

set_option maxHeartbeats 2000000 in
theorem rmake_calls (v : Value) (l : List Fact) (w : World) (hv : FactsAt w v l) :
    Calls Try.prog 11 #[v] w fun e w' => ∃ v', e = .returned (.tuple #[v', .int .i64 (rmakeF l).2]) ∧ OwnF w' w.heap.size v' (rmakeF l).1 ∧ Below w.heap.size w w' := by
  obtain ⟨A, n, c, rfl, hn, hm⟩ := hv.form
  have hroom : n * 16 ≤ 140737488355328 := by obtain ⟨_, _, hv', hl, _⟩ := id hv; injection hv' with _ h2 _; omega
  have HV := Lib.hid hv
  have HN := Lib.hid hn
  clear hv hn
  go_enter Try.func11, Try.ntmps11
  go_wp2
  go_loopg [12] n (fun g i wr => ∃ k : Nat, k ≤ n ∧ g = n - k ∧ i = .int .i64 k ∧ Below w.heap.size w wr ∧ l.any negR = (l.drop k).any negR)
  case atStart => exact ⟨0, Nat.zero_le _, by omega, rfl, Below.refl _ _, rfl⟩
  case round =>
    obtain ⟨k, hk, hg, rfl, hB, hF⟩ := hrel
    have HG := Lib.hid hg
    have HF := Lib.hid hF
    clear hg hF
    by_cases hlt : k < n
    · obtain ⟨b, off, x, y, rfl, c0, c1, hx, hd⟩ := (HV.out.keep hB).at hlt
      have hbr : b < wr.heap.size := lt_of_cell c0
      have HX := Lib.hid hx
      have HD := Lib.hid hd
      clear hx hd
      go_upto_region 4 with fail
      go_cut [23] (fun t wx => t = .bool (negR (x, y)) ∧ Below w.heap.size w wx)
      case first =>
        go_wp2_with fail
        all_goals (go_meet; exact ⟨by rw [Value.bool.injEq, Bool.eq_iff_iff]; simp [negR] <;> omega, belowA hB _⟩)
      case rest =>
        obtain ⟨rfl, hB'⟩ := hcut
        cases hbad : negR (x, y)
        · go_wp2
          go_roundg (n - (k + 1))
          case measure => have := HG.out; omega
          case rel => exact ⟨k + 1, by omega, rfl, by go_num, hB', by rw [HF.out, HD.out]; simp [hbad]⟩
        · have hfin : rmakeF l = ([], 1) := by rw [rmakeF, HF.out, HD.out]; simp [hbad]
          have HFIN := Lib.hid hfin
          clear hfin
          go_wp2
          go_ret2
          exact ⟨_, by rw [HFIN.out]; rfl, by rw [HFIN.out]; exact ⟨rfl, .inl ⟨rfl, rfl⟩⟩, hB'⟩
    · have hany : l.any negR = false := by rw [HF.out, List.drop_eq_nil_of_le (by have := HN.out; omega)]; rfl
      have hfin : rmakeF l = rmakeL [] l := by rw [rmakeF, hany]; rfl
      have HANY := Lib.hid hany
      have HFIN := Lib.hid hfin
      clear hany hfin
      clear HF HG
      go_wp2
      obtain ⟨wo, rfl⟩ : ∃ wo : World, wo = wr := ⟨_, rfl⟩
      go_loopg [6, 27] n (fun g o i wr => ∃ (j : Nat) (acc : List Fact), j ≤ n ∧ g = n - j ∧ i = .int .i64 j ∧ Below w.heap.size w wr ∧ OwnF wr w.heap.size o acc ∧ acc.length ≤ j ∧ rmakeF l = rmakeL acc (l.drop j))
      case atStart => exact ⟨0, [], Nat.zero_le _, by omega, rfl, hB, ⟨rfl, .inl ⟨rfl, rfl⟩⟩, Nat.le_refl _, HFIN.out⟩
      case round =>
        clear hB HFIN HANY
        obtain ⟨j, acc, hj, hg, rfl, hB, hown, hal, hF⟩ := hrel
        obtain ⟨oA, oc, rfl⟩ := hown.form
        have hof : FactsAt wr (.slice oA acc.length oc) acc := hown.facts (by omega)
        generalize hm1 : acc.length = al at hown hof hal ⊢
        have HG := Lib.hid hg
        have HF := Lib.hid hF
        have HO := Lib.hid hown
        have HM1 := Lib.hid hm1
        have HOF := Lib.hid hof
        clear hg hF hown hm1 hof
        by_cases hjt : j < n
        · obtain ⟨b, off, x, y, rfl, c0, c1, hx, hd⟩ := (HV.out.keep hB).at hjt
          have hbr : b < wr.heap.size := lt_of_cell c0
          have hvc := value_calls _ acc x _ (HOF.out.keep (belowA (Below.refl _ _) (.cells #[.int .i64 x, .int .i64 y] 56)))
          have hstep : rmakeF l = if 0 ≤ valueF acc x ∧ valueF acc x ≠ y then ([], 2) else if valueF acc x < 0 then rmakeL (withF acc (x, y)) (l.drop (j + 1)) else rmakeL acc (l.drop (j + 1)) := by rw [HF.out, hd, rmakeL]
          generalize valueF acc x = z at hvc hstep
          have HX := Lib.hid hx
          have HD := Lib.hid hd
          have HVC := Lib.hid hvc
          clear hx hd hvc
          by_cases hz0 : z < 0
          · have hnext : rmakeF l = rmakeL (withF acc (x, y)) (l.drop (j + 1)) := by rw [hstep, if_neg (by omega), if_pos hz0]
            have hwl := withF_len acc (x, y)
            have HSTEP := Lib.hid hstep
            have HNEXT := Lib.hid hnext
            have HWL := Lib.hid hwl
            clear hstep hnext hwl
            go_wp2_with (first
              | (go_at_call 37; refine HVC.out.mono ?_; rintro e w1 ⟨rfl, hb1⟩; have q0 : w1.cell? ⟨wr.heap.size, 0, none⟩ = some (.int .i64 x) := kept hb1 (by simp); have q1 : w1.cell? ⟨wr.heap.size, 1, none⟩ = some (.int .i64 y) := kept hb1 (by simp); have HB1 := Lib.hid (belowT (belowA hB _) hb1); have HOF1 := Lib.hid ((HOF.out.keep (belowA (Below.refl _ _) _)).keep hb1); clear hb1)
              | (go_at_call 38; refine (with_calls _ acc x y _ HOF1.out (by have := HM1.out; omega)).mono ?_; rintro e w2 ⟨v2, rfl, hown2, hb2⟩))
            go_roundg (n - (j + 1))
            case measure => have := HG.out; omega
            case rel => exact ⟨j + 1, _, by omega, rfl, by go_num, belowT HB1.out hb2, own_mono hown2 HB1.out.size, by have := HWL.out; have := HM1.out; omega, HNEXT.out⟩
          · by_cases hzy : z = y
            · have hnext : rmakeF l = rmakeL acc (l.drop (j + 1)) := by rw [hstep, if_neg (by omega), if_neg hz0]
              have hbz : (z != y) = false := by simpa using hzy
              have HSTEP := Lib.hid hstep
              have HNEXT := Lib.hid hnext
              have HZY := Lib.hid hzy
              clear hstep hnext hzy
              go_wp2_with (first
                | (go_at_call 37; refine HVC.out.mono ?_; rintro e w1 ⟨rfl, hb1⟩; have q0 : w1.cell? ⟨wr.heap.size, 0, none⟩ = some (.int .i64 x) := kept hb1 (by simp); have q1 : w1.cell? ⟨wr.heap.size, 1, none⟩ = some (.int .i64 y) := kept hb1 (by simp); have HB1 := Lib.hid (belowT (belowA hB _) hb1); have HB1' := Lib.hid hb1; clear hb1))
              go_roundg (n - (j + 1))
              case measure => have := HG.out; omega
              case rel => exact ⟨j + 1, acc, by omega, rfl, by go_num, HB1.out, ownF_keep (ownF_keep HO.out (belowA (Below.refl _ _) _)) HB1'.out, by have := HM1.out; omega, HNEXT.out⟩
            · have hfin2 : rmakeF l = ([], 2) := by rw [hstep, if_pos ⟨by omega, hzy⟩]
              have hbz : (z != y) = true := by simpa using hzy
              have HSTEP := Lib.hid hstep
              have HFIN2 := Lib.hid hfin2
              have HZY := Lib.hid hzy
              clear hstep hfin2 hzy
              go_wp2_with (first
                | (go_at_call 37; refine HVC.out.mono ?_; rintro e w1 ⟨rfl, hb1⟩; have q0 : w1.cell? ⟨wr.heap.size, 0, none⟩ = some (.int .i64 x) := kept hb1 (by simp); have q1 : w1.cell? ⟨wr.heap.size, 1, none⟩ = some (.int .i64 y) := kept hb1 (by simp); have HB1 := Lib.hid (belowT (belowA hB _) hb1); clear hb1))
              go_ret2
              exact ⟨_, by rw [HFIN2.out]; rfl, by rw [HFIN2.out]; exact ⟨rfl, .inl ⟨rfl, rfl⟩⟩, HB1.out⟩
        · have hfin2 : rmakeF l = (acc, 0) := by rw [HF.out, List.drop_eq_nil_of_le (by have := HN.out; omega), rmakeL]
          have HFIN2 := Lib.hid hfin2
          clear hfin2
          go_wp2
          go_ret2
          exact ⟨_, by rw [HFIN2.out]; rfl, by rw [HFIN2.out]; exact HO.out, hB⟩
end Go.Proofs.Ytpogmkplmcedlaa
