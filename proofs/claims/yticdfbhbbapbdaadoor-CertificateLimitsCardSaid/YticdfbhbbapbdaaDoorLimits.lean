/- The walk of stratagemlaw30.CertificateLimits. -/
import Derived.Test.YticdfbhbbapbdaaDoorAwake30
import Derived.Test.YticdfbhbbapbdaaDoorRCheck
import Derived.Laws.MakeOwn
namespace Go.Proofs.YticdfbhbbapbdaaDoor
open Go.RowKit

theorem infoNogood : (Tryd.prog.info? 45).map (fun i => (i.zero, i.size, i.bytes)) = some (some (.agg #[.slice none 0 0, .int .i64 0]), 2, 32) := by kernel_rfl
theorem made_reads (w : World) (n : Nat) (hn : n ≤ 65536) : NogoodsAt (w.alloc (.cells (madeCells #[.slice none 0 0, .int .i64 0] (n * 2)) 45)) (.slice (some ⟨w.heap.size, 0, none⟩) n n) (List.replicate n ([], 0)) := by
  refine ⟨_, _, by rw [List.length_replicate], by simp; omega, fun k x hx => ?_⟩
  have hk : k < n := by
    have := (List.getElem?_eq_some_iff.1 hx).1
    simpa using this
  have hxx : x = ([], 0) := by
    rw [List.getElem?_replicate, if_pos hk] at hx
    injection hx with hx
    exact hx.symm
  subst hxx
  refine ⟨_, _, .slice none 0 0, rfl, ?_, ⟨none, 0, rfl, by simp, fun k x hx => by simp at hx⟩, ?_⟩
  · rw [World.cell?_alloc_new]
    simp [madeCells, hk]
  · rw [World.cell?_alloc_new]
    have h1 : k * 2 + 1 < n * 2 := by omega
    have h2 : (k * 2 + 1) % 2 = 1 := by omega
    simp [madeCells, h1, h2]

theorem make_nogoods (m : Int) (h0 : 0 ≤ m) (h1 : m ≤ 65536) : ∃ (n : Nat) (cs : Array Value), n ≤ 65536 ∧
    (∀ W : World, (Instr.makeSlice 23 (.int .i64 m) (.int .i64 m)).run Tryd.prog W = .ok (.slice (some ⟨W.heap.size, 0, none⟩) n n) (W.alloc (.cells cs 45))) ∧
    ∀ W : World, NogoodsAt (W.alloc (.cells cs 45)) (.slice (some ⟨W.heap.size, 0, none⟩) n n) (List.replicate n ([], 0)) := by
  obtain ⟨i0, hi, hz0, hz1, hz2⟩ := info_parts infoNogood
  refine ⟨m.toNat, _, by omega, fun W => ?_, fun W => made_reads W m.toNat (by omega)⟩
  have := run_make (P := Tryd.prog) W 23 45 i0 _ Tryd.underlying23 hi hz0 .i64 .i64 m m h0 (Int.le_refl _) (by rw [hz2]; omega) (by omega)
  rw [hz1] at this
  exact this

set_option maxHeartbeats 1000000 in
set_option maxRecDepth 100000 in
theorem limits_calls (more bd : Int) (hm0 : 0 ≤ more) (hm1 : more ≤ 255) (w : World) (htab : TabOk w) :
    Calls Tryd.prog 3 #[.int .u8 more, .int .i64 bd] w fun e w' => e = .returned (.bool true) ∧ Below w.heap.size w w' := by
  obtain ⟨n, cs, hn, hmk, hrd⟩ := make_nogoods (4094 + more % 5) (by omega) (by omega)
  have HTAB := Lib.hid htab
  have HRD := Lib.hid hrd
  clear htab hrd
  go_enter Tryd.func3, Tryd.ntmps3
  go_upto_region 3 with (go_at_call 11; refine (awake_calls _ HTAB.out).mono ?_; rintro e w1 ⟨rfl, hb1⟩)
  go_upto_region 4 with fail
  have HMK := Lib.hid hmk
  clear hmk
  have hv := (HRD.out w1).keep (belowA (Below.refl _ _) (.cells #[.int .i64 bd, .slice (some ⟨w1.heap.size, 0, none⟩) n n] 25))
  have hW0 : Below w.heap.size w ((w1.alloc (.cells cs 45)).alloc (.cells #[.int .i64 bd, .slice (some ⟨w1.heap.size, 0, none⟩) n n] 25)) := belowA (belowA hb1 _) _
  have c0 : ((w1.alloc (.cells cs 45)).alloc (.cells #[.int .i64 bd, .slice (some ⟨w1.heap.size, 0, none⟩) n n] 25)).cell? ⟨w1.heap.size + 1, 0, none⟩ = some (.int .i64 bd) := by simp
  have c1 : ((w1.alloc (.cells cs 45)).alloc (.cells #[.int .i64 bd, .slice (some ⟨w1.heap.size, 0, none⟩) n n] 25)).cell? ⟨w1.heap.size + 1, 1, none⟩ = some (.slice (some ⟨w1.heap.size, 0, none⟩) n n) := by simp
  generalize ((w1.alloc (.cells cs 45)).alloc (.cells #[.int .i64 bd, .slice (some ⟨w1.heap.size, 0, none⟩) n n] 25)) = W0 at hv hW0 c0 c1 ⊢
  generalize w1.heap.size + 1 = B0 at c0 c1 ⊢
  generalize Value.slice (some ⟨w1.heap.size, 0, none⟩) n n = v0 at hv c1 ⊢
  have s0 : Below W0.heap.size W0 W0.drew := (Below.refl _ _).drew
  have HV := Lib.hid hv
  have HW0 := Lib.hid hW0
  have S0 := Lib.hid s0
  clear hv hW0 s0
  go_region_held3 (fun w' => w'.cell? ⟨B0, 0, none⟩ = some (.int .i64 bd) ∧ w'.cell? ⟨B0, 1, none⟩ = some v0)
    (first | exact ⟨kept SB.out c0, kept SB.out c1⟩ | exact ⟨kept SA.out c0, kept SA.out c1⟩ | exact ⟨c0, c1⟩)
    (first
      | (go_at_call 13; refine (check_calls bd _ _ _ (HV.out.keep S0.out)).mono ?_; rintro e wa ⟨rfl, hba⟩; have SA := Lib.hid (belowT S0.out hba); clear hba)
      | (go_at_call 12; refine (num_calls _ _).mono ?_; rintro e wn ⟨rfl, rfl⟩)
      | (go_at_call 14; refine (rcheck_calls bd _ _ _ (HV.out.keep SA.out)).mono ?_; rintro e wb ⟨rfl, hbb⟩; have SB := Lib.hid (belowT SA.out hbb); clear hbb))
  go_wp2
  go_ret
  exact ⟨by simp, belowT HW0.out SB.out⟩
end Go.Proofs.YticdfbhbbapbdaaDoor
