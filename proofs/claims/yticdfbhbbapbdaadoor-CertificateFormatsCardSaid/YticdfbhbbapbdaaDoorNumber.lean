/- stratagemref05.Number, Fact: the decimal text of a number, of a fact. -/
import Derived.Test.YticdfbhbbapbdaaDoorBase
import Derived.Lib.ItoaLen
import Derived.Lib.ItoaMem
import Derived.Deep.RegionHeld3
import Derived.Deep.RegionWith
import Derived.Laws.IdiomStrings
namespace Go.Proofs.YticdfbhbbapbdaaDoor
open Go.RowKit

theorem size_list (t : ByteArray) : t.size = t.data.toList.length := by
  show t.data.size = _
  rw [Array.length_toList]
theorem str_cat (a b : List UInt8) : (⟨a.toArray⟩ ++ ⟨b.toArray⟩ : ByteArray) = ⟨(a ++ b).toArray⟩ := by
  apply ByteArray.ext
  simp [ByteArray.data_append]
theorem dec_small {n : Nat} (h : n < 10) : Lib.decDigits n = [UInt8.ofNat (48 + n)] := Lib.decDigits_one h
theorem dec_big {n : Nat} (h : ¬ n < 10) : Lib.decDigits n = Lib.decDigits (n / 10) ++ [UInt8.ofNat (48 + n % 10)] := by rw [Lib.decDigits, dif_neg h]

theorem itoa_small {z : Int} (h0 : 0 ≤ z) (h : z < 10) : Lib.itoa z = [UInt8.ofNat (48 + z.toNat)] := by
  obtain ⟨m, rfl⟩ := Int.eq_ofNat_of_zero_le h0
  rw [Lib.itoa_nonneg, dec_small (by omega), Int.toNat_natCast]
theorem itoa_big {z : Int} (h0 : 0 ≤ z) (h : ¬ z < 10) : Lib.itoa z = Lib.itoa (z / 10) ++ [UInt8.ofNat (48 + (z % 10).toNat)] := by
  obtain ⟨m, rfl⟩ := Int.eq_ofNat_of_zero_le h0
  rw [show ((m : Int) / 10) = ((m / 10 : Nat) : Int) from by omega, show ((m : Int) % 10).toNat = m % 10 from by omega, Lib.itoa_nonneg, Lib.itoa_nonneg, dec_big (by omega)]
theorem conv_digit (d : Nat) (hd : d < 10) (z : Int) (hz : z = 48 + d) : ∃ u : UInt8, u = UInt8.ofNat (48 + d) ∧ ∀ (W : World) (g : Nat), W.cell? ⟨g, 0, none⟩ = some (.int .u8 z) →
    (convert 59 9 (.slice (some ⟨g, 0, none⟩) 1 1)).run Tryd.prog W = .ok (.string ⟨#[u]⟩) W := by
  refine ⟨_, rfl, fun W g hc => run_convert_bytes_back W 59 9 5 ⟨g, 0, none⟩ 1 [UInt8.ofNat (48 + d)] Tryd.underlying59 Tryd.underlying5 Tryd.underlying9 (fun j hj => ?_)⟩
  obtain rfl : j = 0 := by simpa using hj
  show W.cell? ⟨g, 0, none⟩ = _
  rw [hc, hz]
  simp
  omega

set_option maxHeartbeats 200000 in
set_option maxRecDepth 100000 in
theorem number_fuel (fuel : Nat) : ∀ (z : Int) (w : World), z < fuel → 0 ≤ z → z ≤ 9223372036854775807 →
    Calls Tryd.prog 36 #[.int .i64 z] w fun e w' => e = .returned (.string ⟨(Lib.itoa z).toArray⟩) ∧ Below w.heap.size w w' := by
  induction fuel with
  | zero => intro z w h; omega
  | succ fuel ih =>
    intro z w hf hz hmax
    by_cases hn : z < 10
    · have hfin : Lib.itoa z = [UInt8.ofNat (48 + z.toNat)] := itoa_small hz hn
      obtain ⟨u, hu, kc⟩ := conv_digit z.toNat (by omega) (48 + z) (by omega)
      rw [← hu] at hfin
      have IH := Lib.hid ih
      have HU := Lib.hid hu
      have HFIN := Lib.hid hfin
      clear ih hu hfin
      go_enter Tryd.func36, Tryd.ntmps36
      go_wp2_with fail
      go_ret
      exact ⟨by rw [HFIN.out]; rfl, belowA (Below.refl _ _) _⟩
    · have hfin := itoa_big hz hn
      obtain ⟨u, hu, kc⟩ := conv_digit (z % 10).toNat (by omega) (48 + z % 10) (by omega)
      have hl := Lib.itoa_length_le (z / 10) (by omega) (by omega)
      rw [← hu] at hfin
      have hc := fun (W : World) => ih (z / 10) W (by omega) (by omega) (by omega)
      have HU := Lib.hid hu
      have HFIN := Lib.hid hfin
      have HC := Lib.hid hc
      clear hu hfin hc
      clear ih
      go_enter Tryd.func36, Tryd.ntmps36
      go_upto_region 3 with fail
      have g1 : (9223372036854775807 < (Lib.itoa (z / 10)).length + 1) = False := eq_false (by omega)
      have e1 : z.tdiv 10 = z / 10 := Int.tdiv_eq_ediv_of_nonneg hz
      have e2 : z.tmod 10 = z % 10 := Int.tmod_eq_emod_of_nonneg hz
      have e3 : IntKind.i64.wrap (z / 10) = z / 10 := IntWalk.i64_in _ (by omega)
      have e4 : IntKind.i64.wrap (48 + z % 10) = 48 + z % 10 := IntWalk.i64_in _ (by omega)
      have e5 : IntKind.u8.wrap (48 + z % 10) = 48 + z % 10 := IntWalk.u8_in _ (by omega)
      go_region_with (go_at_call 36; refine (HC.out _).mono ?_; rintro e w' ⟨rfl, hb⟩; (try (have hcx : w'.cell? ⟨w.heap.size, 0, none⟩ = some (.int .u8 (48 + z % 10)) := by (refine kept hb ?_; simp))))
      all_goals (go_wp2_with fail; go_ret; refine ⟨by rw [HFIN.out]; exact congrArg (fun s => Ending.returned (Value.string s)) (str_cat _ [u]), ?_⟩)
      all_goals first
        | exact belowA (belowT (Below.refl _ _).drew hb) _
        | exact belowT (belowA (Below.refl _ _) _).drew hb
        | exact belowT (belowA (Below.refl _ _) _) hb
theorem number_calls (z : Int) (w : World) (h0 : 0 ≤ z) (h1 : z ≤ 9223372036854775807) :
    Calls Tryd.prog 36 #[.int .i64 z] w fun e w' => e = .returned (.string ⟨(Lib.itoa z).toArray⟩) ∧ Below w.heap.size w w' :=
  number_fuel (z.toNat + 1) z w (by omega) h0 h1

set_option maxHeartbeats 1000000 in
theorem fact_text (x y : Int) (w : World) (hx0 : 0 ≤ x) (hx1 : x ≤ 9223372036854775807) (hy0 : 0 ≤ y) (hy1 : y ≤ 9223372036854775807) :
    Calls Tryd.prog 37 #[.agg #[.int .i64 x, .int .i64 y]] w fun e w' => e = .returned (.string ⟨(Lib.itoa x ++ [61] ++ Lib.itoa y).toArray⟩) ∧ Below w.heap.size w w' := by
  have hlx := Lib.itoa_length_le x (by omega) (by omega)
  have hly := Lib.itoa_length_le y (by omega) (by omega)
  have hcx := fun (W : World) => number_calls x W hx0 hx1
  have hcy := fun (W : World) => number_calls y W hy0 hy1
  have HCX := Lib.hid hcx
  have HCY := Lib.hid hcy
  clear hcx hcy
  go_enter Tryd.func37, Tryd.ntmps37
  go_upto_region 1 with fail
  have c0 : (w.alloc (.cells #[.int .i64 x, .int .i64 y] 54)).cell? ⟨w.heap.size, 0, none⟩ = some (.int .i64 x) := by simp
  have c1 : (w.alloc (.cells #[.int .i64 x, .int .i64 y] 54)).cell? ⟨w.heap.size, 1, none⟩ = some (.int .i64 y) := by simp
  have hB0 : Below w.heap.size w (w.alloc (.cells #[.int .i64 x, .int .i64 y] 54)) := belowA (Below.refl _ _) _
  have HB0 := Lib.hid hB0
  clear hB0
  generalize w.alloc (.cells #[.int .i64 x, .int .i64 y] 54) = W0 at c0 c1 HB0 ⊢
  have s0 : Below W0.heap.size W0 W0.drew := (Below.refl _ _).drew
  have g1 : (9223372036854775807 < (Lib.itoa x).length + 1) = False := eq_false (by omega)
  have g2 : (9223372036854775807 < (Lib.itoa x).length + 1 + (Lib.itoa y).length) = False := eq_false (by omega)
  have S0 := Lib.hid s0
  clear s0
  go_region_held3 (fun w' => w'.cell? ⟨w.heap.size, 0, none⟩ = some (.int .i64 x) ∧ w'.cell? ⟨w.heap.size, 1, none⟩ = some (.int .i64 y))
    (first | exact ⟨kept SB.out c0, kept SB.out c1⟩ | exact ⟨kept SA.out c0, kept SA.out c1⟩ | exact ⟨c0, c1⟩)
    (first
      | (go_at_call_of 36 (Value.int .i64 x); refine (HCX.out _).mono ?_; rintro e wa ⟨rfl, hba⟩; have SA := Lib.hid (belowT S0.out hba); clear hba)
      | (go_at_call_of 36 (Value.int .i64 y); refine (HCY.out _).mono ?_; rintro e wb ⟨rfl, hbb⟩; have SB := Lib.hid (belowT SA.out hbb); clear hbb))
  go_wp2
  go_ret
  exact ⟨by rw [← str_cat, ← str_cat]; rfl, belowT HB0.out SB.out⟩
end Go.Proofs.YticdfbhbbapbdaaDoor
