/- stratagemlaw30.CertificateKeeps in the abstract machine. -/
import Derived.Test.YticdfbhbbapbdaaDoorReduceA
import Derived.Test.YticdfbhbbapbdaaDoorPlainK
namespace Go.Proofs.YticdfbhbbapbdaaDoor.Am
open Go.RowKit

theorem sz_sub {l r : List Nogood} (hl : SzN l) (h : r.Sublist l) : SzN r := ⟨Nat.le_trans (Nat.mul_le_mul_right _ h.length_le) hl.1, fun x hx => hl.2 x (h.subset hx)⟩
theorem sz_reduce {bd : Int} {l : List Nogood} (hl : SzN l) : SzN (reduceC bd l) := by
  unfold reduceC
  split
  · exact sz_sub hl (red_sub l l 0)
  · exact hl
theorem sz_sort {bd : Int} {l : List Nogood} (hl : SzN l) : SzN (sortC bd l) := by
  unfold sortC
  split
  · exact ⟨by rw [(sortN_perm l).length_eq]; exact hl.1, fun x hx => hl.2 x ((sortN_perm l).subset hx)⟩
  · exact hl

set_option maxHeartbeats 8000000 in
set_option maxRecDepth 100000 in
theorem lawKeeps_A (bd : Int) (l : List Nogood) (s : List Int) (d : Int) (hl : SzN l) (hs : s.length * 8 ≤ 140737488355328) :
    ACall cx 8 [aC bd l, .sl 1 (s.map cI), .c (.int .i64 d)] (.c (.bool true)) := by
  have hla := large_A bd l hl
  have haw := awake_A
  by_cases hL : largeF l = true
  · rw [hL] at hla
    refine acall_of Tryd.func8 rfl (by decide) rfl (Nat.le_of_ble_eq_true rfl) ?_
    intro _
    repeat (first | refine awp_seq ?_ | refine awp_block ?_ | refine awp_skip ?_ | refine awp_label ?_ | refine awp_exit ?_ | refine awp_ret ?_ | refine awp_cond ?_ | (refine awp_region ?_; intro _) | refine And.intro (fun h => by first | (cases h; done) | exact ⟨by kernel_rfl, by kernel_rfl⟩ | exact ⟨rfl, rfl⟩) ?_ | refine And.intro ?_ (fun h => by (cases h; done)) | intro _)
    refine Exists.intro _ (And.intro (lf_call rfl (Nat.le_of_ble_eq_true rfl) rfl (hla) (by repeat (first | exact trivial | refine And.intro ?_ ?_)) (by repeat (first | exact trivial | refine And.intro ?_ ?_))) ?_)
    intro _
    repeat (first | refine awp_seq ?_ | refine awp_block ?_ | refine awp_skip ?_ | refine awp_label ?_ | refine awp_exit ?_ | refine awp_ret ?_ | refine awp_cond ?_ | (refine awp_region ?_; intro _) | refine And.intro (fun h => by first | (cases h; done) | exact ⟨by kernel_rfl, by kernel_rfl⟩ | exact ⟨rfl, rfl⟩) ?_ | refine And.intro ?_ (fun h => by (cases h; done)) | intro _)
    refine Exists.intro _ (And.intro (lf_call rfl (Nat.le_of_ble_eq_true rfl) rfl (haw) (by repeat (first | exact trivial | refine And.intro ?_ ?_)) (by repeat (first | exact trivial | refine And.intro ?_ ?_))) ?_)
    intro _
    repeat (first | refine awp_seq ?_ | refine awp_block ?_ | refine awp_skip ?_ | refine awp_label ?_ | refine awp_exit ?_ | refine awp_ret ?_ | refine awp_cond ?_ | (refine awp_region ?_; intro _) | refine And.intro (fun h => by first | (cases h; done) | exact ⟨by kernel_rfl, by kernel_rfl⟩ | exact ⟨rfl, rfl⟩) ?_ | refine And.intro ?_ (fun h => by (cases h; done)) | intro _)
    exact And.intro rfl trivial
  · simp only [Bool.not_eq_true] at hL
    rw [hL] at hla
    obtain ⟨S, hS⟩ : ∃ S, S = sortC bd l := ⟨_, rfl⟩
    obtain ⟨D, hD⟩ : ∃ D, D = reduceC bd l := ⟨_, rfl⟩
    obtain ⟨C, hC⟩ : ∃ C, C = claimsF bd l s d := ⟨_, rfl⟩
    have zS : SzN S := by rw [hS]; exact sz_sort hl
    have zD : SzN D := by rw [hD]; exact sz_reduce hl
    have hlen : S.length = l.length := by rw [hS]; exact sortC_length bd l
    have c1 := sort_A bd l hl
    have c2 := reduce_A bd l hl
    have c3 := claims_A bd l s d hl hs
    have c4 := claims_A bd S s d zS hs
    have c5 := claims_A bd D s d zD hs
    have c6 := reduce_A bd D zD
    have c7 := same_A bd bd D D zD zD
    have c8 := sort_A bd S zS
    have c9 := same_A bd bd S S zS zS
    rw [sameC_self] at c7 c9
    rw [hS, claims_sort, ← hC, ← hS] at c4
    rw [hD, claims_reduce, ← hC, ← hD] at c5
    rw [hD, reduceC_idem, ← hD] at c6
    rw [hS, sortC_idem, ← hS] at c8
    rw [← hS] at c1
    rw [← hD] at c2
    rw [← hC] at c3
    have hck := check_A bd l hl
    have hD0 : checkF bd l = 0 → D = redP l 0 l := fun h => by rw [hD]; exact if_pos h
    clear hS hD hC
    have hDn := zD.1
    refine acall_of Tryd.func8 rfl (by decide) rfl (Nat.le_of_ble_eq_true rfl) ?_
    intro _
    repeat (first | refine awp_seq ?_ | refine awp_block ?_ | refine awp_skip ?_ | refine awp_label ?_ | refine awp_exit ?_ | refine awp_ret ?_ | refine awp_cond ?_ | (refine awp_region ?_; intro _) | refine And.intro (fun h => by first | (cases h; done) | exact ⟨by kernel_rfl, by kernel_rfl⟩ | exact ⟨rfl, rfl⟩) ?_ | refine And.intro ?_ (fun h => by (cases h; done)) | intro _)
    refine Exists.intro _ (And.intro (lf_call rfl (Nat.le_of_ble_eq_true rfl) rfl (hla) (by repeat (first | exact trivial | refine And.intro ?_ ?_)) (by repeat (first | exact trivial | refine And.intro ?_ ?_))) ?_)
    intro _
    repeat (first | refine awp_seq ?_ | refine awp_block ?_ | refine awp_skip ?_ | refine awp_label ?_ | refine awp_exit ?_ | refine awp_ret ?_ | refine awp_cond ?_ | (refine awp_region ?_; intro _) | refine And.intro (fun h => by first | (cases h; done) | exact ⟨by kernel_rfl, by kernel_rfl⟩ | exact ⟨rfl, rfl⟩) ?_ | refine And.intro ?_ (fun h => by (cases h; done)) | intro _)
    refine And.intro (fun h1 => ?_) (fun h1 => ?_)
    · repeat (first | refine awp_seq ?_ | refine awp_block ?_ | refine awp_skip ?_ | refine awp_label ?_ | refine awp_exit ?_ | refine awp_ret ?_ | refine awp_cond ?_ | (refine awp_region ?_; intro _) | refine And.intro (fun h => by first | (cases h; done) | exact ⟨by kernel_rfl, by kernel_rfl⟩ | exact ⟨rfl, rfl⟩) ?_ | refine And.intro ?_ (fun h => by (cases h; done)) | intro _)
      refine Exists.intro _ (And.intro (lf_call rfl (Nat.le_of_ble_eq_true rfl) rfl (haw) (by repeat (first | exact trivial | refine And.intro ?_ ?_)) (by repeat (first | exact trivial | refine And.intro ?_ ?_))) ?_)
      intro _
      repeat (first | refine awp_seq ?_ | refine awp_block ?_ | refine awp_skip ?_ | refine awp_label ?_ | refine awp_exit ?_ | refine awp_ret ?_ | refine awp_cond ?_ | (refine awp_region ?_; intro _) | refine And.intro (fun h => by first | (cases h; done) | exact ⟨by kernel_rfl, by kernel_rfl⟩ | exact ⟨rfl, rfl⟩) ?_ | refine And.intro ?_ (fun h => by (cases h; done)) | intro _)
      refine Exists.intro _ (And.intro (lf_call rfl (Nat.le_of_ble_eq_true rfl) rfl (c1) (by repeat (first | exact trivial | refine And.intro ?_ ?_)) (by repeat (first | exact trivial | refine And.intro ?_ ?_))) ?_)
      intro _
      repeat (first | refine awp_seq ?_ | refine awp_block ?_ | refine awp_skip ?_ | refine awp_label ?_ | refine awp_exit ?_ | refine awp_ret ?_ | refine awp_cond ?_ | (refine awp_region ?_; intro _) | refine And.intro (fun h => by first | (cases h; done) | exact ⟨by kernel_rfl, by kernel_rfl⟩ | exact ⟨rfl, rfl⟩) ?_ | refine And.intro ?_ (fun h => by (cases h; done)) | intro _)
      refine Exists.intro _ (And.intro (lf_call rfl (Nat.le_of_ble_eq_true rfl) rfl (c2) (by repeat (first | exact trivial | refine And.intro ?_ ?_)) (by repeat (first | exact trivial | refine And.intro ?_ ?_))) ?_)
      intro _
      repeat (first | refine awp_seq ?_ | refine awp_block ?_ | refine awp_skip ?_ | refine awp_label ?_ | refine awp_exit ?_ | refine awp_ret ?_ | refine awp_cond ?_ | (refine awp_region ?_; intro _) | refine And.intro (fun h => by first | (cases h; done) | exact ⟨by kernel_rfl, by kernel_rfl⟩ | exact ⟨rfl, rfl⟩) ?_ | refine And.intro ?_ (fun h => by (cases h; done)) | intro _)
      refine Exists.intro _ (And.intro (lf_call rfl (Nat.le_of_ble_eq_true rfl) rfl (c3) (by repeat (first | exact trivial | refine And.intro ?_ ?_)) (by repeat (first | exact trivial | refine And.intro ?_ ?_))) ?_)
      intro _
      repeat (first | refine awp_seq ?_ | refine awp_block ?_ | refine awp_skip ?_ | refine awp_label ?_ | refine awp_exit ?_ | refine awp_ret ?_ | refine awp_cond ?_ | (refine awp_region ?_; intro _) | refine And.intro (fun h => by first | (cases h; done) | exact ⟨by kernel_rfl, by kernel_rfl⟩ | exact ⟨rfl, rfl⟩) ?_ | refine And.intro ?_ (fun h => by (cases h; done)) | intro _)
      refine Exists.intro _ (And.intro (lf_call rfl (Nat.le_of_ble_eq_true rfl) rfl (c4) (by repeat (first | exact trivial | refine And.intro ?_ ?_)) (by repeat (first | exact trivial | refine And.intro ?_ ?_))) ?_)
      intro _
      repeat (first | refine awp_seq ?_ | refine awp_block ?_ | refine awp_skip ?_ | refine awp_label ?_ | refine awp_exit ?_ | refine awp_ret ?_ | refine awp_cond ?_ | (refine awp_region ?_; intro _) | refine And.intro (fun h => by first | (cases h; done) | exact ⟨by kernel_rfl, by kernel_rfl⟩ | exact ⟨rfl, rfl⟩) ?_ | refine And.intro ?_ (fun h => by (cases h; done)) | intro _)
      refine And.intro (fun h2 => ?_) (fun h2 => ?_)
      · repeat (first | refine awp_seq ?_ | refine awp_block ?_ | refine awp_skip ?_ | refine awp_label ?_ | refine awp_exit ?_ | refine awp_ret ?_ | refine awp_cond ?_ | (refine awp_region ?_; intro _) | refine And.intro (fun h => by first | (cases h; done) | exact ⟨by kernel_rfl, by kernel_rfl⟩ | exact ⟨rfl, rfl⟩) ?_ | refine And.intro ?_ (fun h => by (cases h; done)) | intro _)
        refine Exists.intro _ (And.intro (lf_call rfl (Nat.le_of_ble_eq_true rfl) rfl (c5) (by repeat (first | exact trivial | refine And.intro ?_ ?_)) (by repeat (first | exact trivial | refine And.intro ?_ ?_))) ?_)
        intro _
        repeat (first | refine awp_seq ?_ | refine awp_block ?_ | refine awp_skip ?_ | refine awp_label ?_ | refine awp_exit ?_ | refine awp_ret ?_ | refine awp_cond ?_ | (refine awp_region ?_; intro _) | refine And.intro (fun h => by first | (cases h; done) | exact ⟨by kernel_rfl, by kernel_rfl⟩ | exact ⟨rfl, rfl⟩) ?_ | refine And.intro ?_ (fun h => by (cases h; done)) | intro _)
        refine And.intro (fun h3 => ?_) (fun h3 => ?_)
        · repeat (first | refine awp_seq ?_ | refine awp_block ?_ | refine awp_skip ?_ | refine awp_label ?_ | refine awp_exit ?_ | refine awp_ret ?_ | refine awp_cond ?_ | (refine awp_region ?_; intro _) | refine And.intro (fun h => by first | (cases h; done) | exact ⟨by kernel_rfl, by kernel_rfl⟩ | exact ⟨rfl, rfl⟩) ?_ | refine And.intro ?_ (fun h => by (cases h; done)) | intro _)
          refine Exists.intro _ (And.intro (lf_call rfl (Nat.le_of_ble_eq_true rfl) rfl (c6) (by repeat (first | exact trivial | refine And.intro ?_ ?_)) (by repeat (first | exact trivial | refine And.intro ?_ ?_))) ?_)
          intro _
          repeat (first | refine awp_seq ?_ | refine awp_block ?_ | refine awp_skip ?_ | refine awp_label ?_ | refine awp_exit ?_ | refine awp_ret ?_ | refine awp_cond ?_ | (refine awp_region ?_; intro _) | refine And.intro (fun h => by first | (cases h; done) | exact ⟨by kernel_rfl, by kernel_rfl⟩ | exact ⟨rfl, rfl⟩) ?_ | refine And.intro ?_ (fun h => by (cases h; done)) | intro _)
          refine Exists.intro _ (And.intro (lf_call rfl (Nat.le_of_ble_eq_true rfl) rfl (c7) (by repeat (first | exact trivial | refine And.intro ?_ ?_)) (by repeat (first | exact trivial | refine And.intro ?_ ?_))) ?_)
          intro _
          repeat (first | refine awp_seq ?_ | refine awp_block ?_ | refine awp_skip ?_ | refine awp_label ?_ | refine awp_exit ?_ | refine awp_ret ?_ | refine awp_cond ?_ | (refine awp_region ?_; intro _) | refine And.intro (fun h => by first | (cases h; done) | exact ⟨by kernel_rfl, by kernel_rfl⟩ | exact ⟨rfl, rfl⟩) ?_ | refine And.intro ?_ (fun h => by (cases h; done)) | intro _)
          refine Exists.intro _ (And.intro (lf_call rfl (Nat.le_of_ble_eq_true rfl) rfl (c8) (by repeat (first | exact trivial | refine And.intro ?_ ?_)) (by repeat (first | exact trivial | refine And.intro ?_ ?_))) ?_)
          intro _
          repeat (first | refine awp_seq ?_ | refine awp_block ?_ | refine awp_skip ?_ | refine awp_label ?_ | refine awp_exit ?_ | refine awp_ret ?_ | refine awp_cond ?_ | (refine awp_region ?_; intro _) | refine And.intro (fun h => by first | (cases h; done) | exact ⟨by kernel_rfl, by kernel_rfl⟩ | exact ⟨rfl, rfl⟩) ?_ | refine And.intro ?_ (fun h => by (cases h; done)) | intro _)
          refine Exists.intro _ (And.intro (lf_call rfl (Nat.le_of_ble_eq_true rfl) rfl (c9) (by repeat (first | exact trivial | refine And.intro ?_ ?_)) (by repeat (first | exact trivial | refine And.intro ?_ ?_))) ?_)
          intro _
          repeat (first | refine awp_seq ?_ | refine awp_block ?_ | refine awp_skip ?_ | refine awp_label ?_ | refine awp_exit ?_ | refine awp_ret ?_ | refine awp_cond ?_ | (refine awp_region ?_; intro _) | refine And.intro (fun h => by first | (cases h; done) | exact ⟨by kernel_rfl, by kernel_rfl⟩ | exact ⟨rfl, rfl⟩) ?_ | refine And.intro ?_ (fun h => by (cases h; done)) | intro _)
          by_cases hz : checkF bd l = 0
          · rw [hz] at hck
            have hck : ACall cx 13 [aC bd l] (.c .nilIface) := hck
            have hap : ∀ (i k : Nat) (a b : Nogood), D[i]? = some a → D[k]? = some b → i ≠ k → ¬ Bel b a := fun i k a b ha hb => by rw [hD0 hz] at ha hb; exact red_apart ha hb
            refine Exists.intro _ (And.intro (lf_call rfl (Nat.le_of_ble_eq_true rfl) rfl (hck) (by repeat (first | exact trivial | refine And.intro ?_ ?_)) (by repeat (first | exact trivial | refine And.intro ?_ ?_))) ?_)
            intro _
            repeat (first | refine awp_seq ?_ | refine awp_block ?_ | refine awp_skip ?_ | refine awp_label ?_ | refine awp_exit ?_ | refine awp_ret ?_ | refine awp_cond ?_ | (refine awp_region ?_; intro _) | refine And.intro (fun h => by first | (cases h; done) | exact ⟨by kernel_rfl, by kernel_rfl⟩ | exact ⟨rfl, rfl⟩) ?_ | refine And.intro ?_ (fun h => by (cases h; done)) | intro _)
            refine awp_loop (α := Nat) (fun x => mkS 107 [(3, .ptr 3 0 0 0), (7, .ptr 7 0 0 0), (8, .ptr 8 0 0 0), (66, .sl 2 (D.map cN)), (67, .c (.int .i64 (D.map cN).length)), (68, .c (.int .i64 x))]
              [(3, boxC bd (.sl 2 (l.map cN))), (7, boxC bd (.sl 2 (S.map cN))), (8, boxC bd (.sl 2 (D.map cN)))])
              (fun x => x ≤ D.length) (fun x => D.length - x) 0 (Nat.zero_le _) ?_ ?_
            · repeat (first | exact True.intro | refine And.intro (by first | rfl | exact ⟨rfl, rfl⟩) ?_)
            · intro x hk
              intro _
              repeat (first | refine awp_seq ?_ | refine awp_block ?_ | refine awp_skip ?_ | refine awp_label ?_ | refine awp_exit ?_ | refine awp_ret ?_ | refine awp_cond ?_ | (refine awp_region ?_; intro _) | refine And.intro (fun h => by first | (cases h; done) | exact ⟨by kernel_rfl, by kernel_rfl⟩ | exact ⟨rfl, rfl⟩) ?_ | refine And.intro ?_ (fun h => by (cases h; done)) | intro _)
              refine And.intro (fun ht => ?_) (fun ht => ?_)
              · have hlt : x < D.length := by simpa using ht
                obtain ⟨a, ha, _⟩ := some_at rfl hlt
                have hsa := nogood_in zD ha
                repeat (first | refine awp_seq ?_ | refine awp_block ?_ | refine awp_skip ?_ | refine awp_label ?_ | refine awp_exit ?_ | refine awp_ret ?_ | refine awp_cond ?_ | (refine awp_region ?_; intro _) | refine And.intro (fun h => by first | (cases h; done) | exact ⟨by kernel_rfl, by kernel_rfl⟩ | exact ⟨rfl, rfl⟩) ?_ | refine And.intro ?_ (fun h => by (cases h; done)) | intro _)
                refine Exists.intro (cN a) (And.intro (map_at ha) ?_)
                intro _
                repeat (first | refine awp_seq ?_ | refine awp_block ?_ | refine awp_skip ?_ | refine awp_label ?_ | refine awp_exit ?_ | refine awp_ret ?_ | refine awp_cond ?_ | (refine awp_region ?_; intro _) | refine And.intro (fun h => by first | (cases h; done) | exact ⟨by kernel_rfl, by kernel_rfl⟩ | exact ⟨rfl, rfl⟩) ?_ | refine And.intro ?_ (fun h => by (cases h; done)) | refine And.intro (Int.natCast_nonneg _) ?_ | intro _)
                refine awp_loop (α := Nat) (fun y => mkS 107 [(3, .ptr 3 0 0 0), (7, .ptr 7 0 0 0), (8, .ptr 8 0 0 0), (10, .c (.int .i64 x)), (11, .ptr 11 0 0 0), (66, .sl 2 (D.map cN)), (67, .c (.int .i64 (D.map cN).length)), (68, .c (.int .i64 x)), (74, .sl 2 (D.map cN)), (75, .c (.int .i64 (D.map cN).length)), (76, .c (.int .i64 y))]
                  [(3, boxC bd (.sl 2 (l.map cN))), (7, boxC bd (.sl 2 (S.map cN))), (8, boxC bd (.sl 2 (D.map cN))), (11, boxN a)])
                  (fun y => y ≤ D.length) (fun y => D.length - y) 0 (Nat.zero_le _) ?_ ?_
                · repeat (first | exact True.intro | refine And.intro (by first | rfl | exact ⟨rfl, rfl⟩) ?_)
                · intro y hj
                  intro _
                  repeat (first | refine awp_seq ?_ | refine awp_block ?_ | refine awp_skip ?_ | refine awp_label ?_ | refine awp_exit ?_ | refine awp_ret ?_ | refine awp_cond ?_ | (refine awp_region ?_; intro _) | refine And.intro (fun h => by first | (cases h; done) | exact ⟨by kernel_rfl, by kernel_rfl⟩ | exact ⟨rfl, rfl⟩) ?_ | refine And.intro ?_ (fun h => by (cases h; done)) | intro _)
                  refine And.intro (fun ht2 => ?_) (fun ht2 => ?_)
                  · have hlt2 : y < D.length := by simpa using ht2
                    obtain ⟨b, hb, _⟩ := some_at rfl hlt2
                    have hsb := nogood_in zD hb
                    have hcon := Contains_A a.1 b.1 hsa hsb
                    repeat (first | refine awp_seq ?_ | refine awp_block ?_ | refine awp_skip ?_ | refine awp_label ?_ | refine awp_exit ?_ | refine awp_ret ?_ | refine awp_cond ?_ | (refine awp_region ?_; intro _) | refine And.intro (fun h => by first | (cases h; done) | exact ⟨by kernel_rfl, by kernel_rfl⟩ | exact ⟨rfl, rfl⟩) ?_ | refine And.intro ?_ (fun h => by (cases h; done)) | intro _)
                    refine Exists.intro (cN b) (And.intro (map_at hb) ?_)
                    intro _
                    repeat (first | refine awp_seq ?_ | refine awp_block ?_ | refine awp_skip ?_ | refine awp_label ?_ | refine awp_exit ?_ | refine awp_ret ?_ | refine awp_cond ?_ | (refine awp_region ?_; intro _) | refine And.intro (fun h => by first | (cases h; done) | exact ⟨by kernel_rfl, by kernel_rfl⟩ | exact ⟨rfl, rfl⟩) ?_ | refine And.intro ?_ (fun h => by (cases h; done)) | refine And.intro (Int.natCast_nonneg _) ?_ | intro _)
                    refine And.intro (fun h4 => ?_) (fun h4 => ?_)
                    · have hne : x ≠ y := fun e => by rw [e] at h4; simp at h4
                      repeat (first | refine awp_seq ?_ | refine awp_block ?_ | refine awp_skip ?_ | refine awp_label ?_ | refine awp_exit ?_ | refine awp_ret ?_ | refine awp_cond ?_ | (refine awp_region ?_; intro _) | refine And.intro (fun h => by first | (cases h; done) | exact ⟨by kernel_rfl, by kernel_rfl⟩ | exact ⟨rfl, rfl⟩) ?_ | refine And.intro ?_ (fun h => by (cases h; done)) | intro _)
                      refine And.intro (fun h5 => ?_) (fun h5 => ?_)
                      · have hle : b.2 ≤ a.2 := by simpa using h5
                        have hnc : ContainsF a.1 b.1 = false := by
                          cases hc : ContainsF a.1 b.1
                          · rfl
                          · exact absurd ⟨hle, hc⟩ (hap x y a b ha hb hne)
                        rw [hnc] at hcon
                        repeat (first | refine awp_seq ?_ | refine awp_block ?_ | refine awp_skip ?_ | refine awp_label ?_ | refine awp_exit ?_ | refine awp_ret ?_ | refine awp_cond ?_ | (refine awp_region ?_; intro _) | refine And.intro (fun h => by first | (cases h; done) | exact ⟨by kernel_rfl, by kernel_rfl⟩ | exact ⟨rfl, rfl⟩) ?_ | refine And.intro ?_ (fun h => by (cases h; done)) | intro _)
                        refine Exists.intro _ (And.intro (lf_call rfl (Nat.le_of_ble_eq_true rfl) rfl (hcon) (by repeat (first | exact trivial | refine And.intro ?_ ?_)) (by repeat (first | exact trivial | refine And.intro ?_ ?_))) ?_)
                        intro _
                        repeat (first | refine awp_seq ?_ | refine awp_block ?_ | refine awp_skip ?_ | refine awp_label ?_ | refine awp_exit ?_ | refine awp_ret ?_ | refine awp_cond ?_ | (refine awp_region ?_; intro _) | refine And.intro (fun h => by first | (cases h; done) | exact ⟨by kernel_rfl, by kernel_rfl⟩ | exact ⟨rfl, rfl⟩) ?_ | refine And.intro ?_ (fun h => by (cases h; done)) | intro _)
                        refine Exists.intro (y + 1) (And.intro hlt2 (And.intro (by show D.length - (y + 1) < D.length - y; omega) ?_))
                        repeat (first | exact True.intro | refine And.intro (by first | rfl | exact ⟨rfl, rfl⟩ | (rw [wrap_eq (by omega) (by omega)]; rfl)) ?_)
                      · repeat (first | refine awp_seq ?_ | refine awp_block ?_ | refine awp_skip ?_ | refine awp_label ?_ | refine awp_exit ?_ | refine awp_ret ?_ | refine awp_cond ?_ | (refine awp_region ?_; intro _) | refine And.intro (fun h => by first | (cases h; done) | exact ⟨by kernel_rfl, by kernel_rfl⟩ | exact ⟨rfl, rfl⟩) ?_ | refine And.intro ?_ (fun h => by (cases h; done)) | intro _)
                        refine Exists.intro (y + 1) (And.intro hlt2 (And.intro (by show D.length - (y + 1) < D.length - y; omega) ?_))
                        repeat (first | exact True.intro | refine And.intro (by first | rfl | exact ⟨rfl, rfl⟩ | (rw [wrap_eq (by omega) (by omega)]; rfl)) ?_)
                    · repeat (first | refine awp_seq ?_ | refine awp_block ?_ | refine awp_skip ?_ | refine awp_label ?_ | refine awp_exit ?_ | refine awp_ret ?_ | refine awp_cond ?_ | (refine awp_region ?_; intro _) | refine And.intro (fun h => by first | (cases h; done) | exact ⟨by kernel_rfl, by kernel_rfl⟩ | exact ⟨rfl, rfl⟩) ?_ | refine And.intro ?_ (fun h => by (cases h; done)) | intro _)
                      refine Exists.intro (y + 1) (And.intro hlt2 (And.intro (by show D.length - (y + 1) < D.length - y; omega) ?_))
                      repeat (first | exact True.intro | refine And.intro (by first | rfl | exact ⟨rfl, rfl⟩ | (rw [wrap_eq (by omega) (by omega)]; rfl)) ?_)
                  · repeat (first | refine awp_seq ?_ | refine awp_block ?_ | refine awp_skip ?_ | refine awp_label ?_ | refine awp_exit ?_ | refine awp_ret ?_ | refine awp_cond ?_ | (refine awp_region ?_; intro _) | refine And.intro (fun h => by first | (cases h; done) | exact ⟨by kernel_rfl, by kernel_rfl⟩ | exact ⟨rfl, rfl⟩) ?_ | refine And.intro ?_ (fun h => by (cases h; done)) | intro _)
                    refine Exists.intro (x + 1) (And.intro hlt (And.intro (by show D.length - (x + 1) < D.length - x; omega) ?_))
                    repeat (first | exact True.intro | refine And.intro (by first | rfl | exact ⟨rfl, rfl⟩ | (rw [wrap_eq (by omega) (by omega)]; rfl)) ?_)
              · have hfin : ((((S.map cN).length : Nat) : Int) == (((l.map cN).length : Nat) : Int)) = true := by simp [hlen]
                repeat (first | refine awp_seq ?_ | refine awp_block ?_ | refine awp_skip ?_ | refine awp_label ?_ | refine awp_exit ?_ | refine awp_ret ?_ | refine awp_cond ?_ | (refine awp_region ?_; intro _) | refine And.intro (fun h => by first | (cases h; done) | exact ⟨by kernel_rfl, by kernel_rfl⟩ | exact ⟨rfl, rfl⟩) ?_ | refine And.intro ?_ (fun h => by (cases h; done)) | intro _)
                first | exact And.intro (congrArg (fun b => AV.c (Value.bool b)) hfin) trivial | exact And.intro (congrArg (fun b => AV.c (Value.bool b)) hfin.symm) trivial
          · have hck : ACall cx 13 [aC bd l] (.ifc 55 (.c (.int .i64 (checkF bd l)))) := by
              rw [errA, if_neg hz] at hck
              exact hck
            refine Exists.intro _ (And.intro (lf_call rfl (Nat.le_of_ble_eq_true rfl) rfl hck (by repeat (first | exact trivial | refine And.intro ?_ ?_)) (.ifc (.c _))) ?_)
            repeat (first | refine awp_seq ?_ | refine awp_block ?_ | refine awp_skip ?_ | refine awp_label ?_ | refine awp_exit ?_ | refine awp_ret ?_ | refine awp_cond ?_ | (refine awp_region ?_; intro _) | refine And.intro (fun h => by first | (cases h; done) | exact ⟨by kernel_rfl, by kernel_rfl⟩ | exact ⟨rfl, rfl⟩) ?_ | refine And.intro ?_ (fun h => by (cases h; done)) | intro _)
            exact And.intro rfl trivial
        · simp at h3
      · simp at h2
    · repeat (first | refine awp_seq ?_ | refine awp_block ?_ | refine awp_skip ?_ | refine awp_label ?_ | refine awp_exit ?_ | refine awp_ret ?_ | refine awp_cond ?_ | (refine awp_region ?_; intro _) | refine And.intro (fun h => by first | (cases h; done) | exact ⟨by kernel_rfl, by kernel_rfl⟩ | exact ⟨rfl, rfl⟩) ?_ | refine And.intro ?_ (fun h => by (cases h; done)) | intro _)
      refine Exists.intro _ (And.intro (lf_call rfl (Nat.le_of_ble_eq_true rfl) rfl (haw) (by repeat (first | exact trivial | refine And.intro ?_ ?_)) (by repeat (first | exact trivial | refine And.intro ?_ ?_))) ?_)
      intro _
      repeat (first | refine awp_seq ?_ | refine awp_block ?_ | refine awp_skip ?_ | refine awp_label ?_ | refine awp_exit ?_ | refine awp_ret ?_ | refine awp_cond ?_ | (refine awp_region ?_; intro _) | refine And.intro (fun h => by first | (cases h; done) | exact ⟨by kernel_rfl, by kernel_rfl⟩ | exact ⟨rfl, rfl⟩) ?_ | refine And.intro ?_ (fun h => by (cases h; done)) | intro _)
      exact And.intro rfl trivial
end Go.Proofs.YticdfbhbbapbdaaDoor.Am
