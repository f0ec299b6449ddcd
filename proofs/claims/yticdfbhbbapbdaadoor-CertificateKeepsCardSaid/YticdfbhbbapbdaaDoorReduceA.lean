/- certificate.Reduce in the abstract machine. -/
import Derived.Test.YticdfbhbbapbdaaDoorCx30
import Derived.Test.YticdfbhbbapbdaaDoorPlainR
namespace Go.Proofs.YticdfbhbbapbdaaDoor.Am
open Go.RowKit

theorem nogood_in {l : List Nogood} (hl : SzN l) {k : Nat} {x : Nogood} (h : l[k]? = some x) : x.1.length * 16 ≤ 140737488355328 := hl.2 x (List.mem_of_getElem? h)
def boxC (bd : Int) (v : AV) : Blk := ⟨25, 2, true, [[.c (.int .i64 bd), v]]⟩
def boxN (x : Nogood) : Blk := ⟨45, 2, true, [cN x]⟩
def rowN (l : List Nogood) : Blk := ⟨45, 2, false, l.map cN⟩

set_option maxHeartbeats 8000000 in
set_option maxRecDepth 100000 in
theorem reduce_A (bd : Int) (l : List Nogood) (hl : SzN l) : ACall cx 25 [aC bd l] (aC bd (reduceC bd l)) := by
  have hn := hl.1
  have hcl := clone_A bd l hl
  have hck := check_A bd l hl
  by_cases hz : checkF bd l = 0
  · rw [hz] at hck
    have hck : ACall cx 13 [aC bd l] (.c .nilIface) := hck
    have hr : reduceC bd l = redP l 0 l := if_pos hz
    rw [hr]
    refine acall_of Tryd.func25 rfl (by decide) rfl (Nat.le_of_ble_eq_true rfl) ?_
    intro _
    repeat (first | refine awp_seq ?_ | refine awp_block ?_ | refine awp_skip ?_ | refine awp_label ?_ | refine awp_exit ?_ | refine awp_ret ?_ | refine awp_cond ?_ | (refine awp_region ?_; intro _) | refine And.intro (fun h => by first | (cases h; done) | exact ⟨by kernel_rfl, by kernel_rfl⟩ | exact ⟨rfl, rfl⟩) ?_ | refine And.intro ?_ (fun h => by (cases h; done)) | intro _)
    refine Exists.intro _ (And.intro (lf_call rfl (Nat.le_of_ble_eq_true rfl) rfl (hcl) (by repeat (first | exact trivial | refine And.intro ?_ ?_)) (by repeat (first | exact trivial | refine And.intro ?_ ?_))) ?_)
    intro _
    repeat (first | refine awp_seq ?_ | refine awp_block ?_ | refine awp_skip ?_ | refine awp_label ?_ | refine awp_exit ?_ | refine awp_ret ?_ | refine awp_cond ?_ | (refine awp_region ?_; intro _) | refine And.intro (fun h => by first | (cases h; done) | exact ⟨by kernel_rfl, by kernel_rfl⟩ | exact ⟨rfl, rfl⟩) ?_ | refine And.intro ?_ (fun h => by (cases h; done)) | intro _)
    refine Exists.intro _ (And.intro (lf_call rfl (Nat.le_of_ble_eq_true rfl) rfl (hck) (by repeat (first | exact trivial | refine And.intro ?_ ?_)) (by repeat (first | exact trivial | refine And.intro ?_ ?_))) ?_)
    intro _
    repeat (first | refine awp_seq ?_ | refine awp_block ?_ | refine awp_skip ?_ | refine awp_label ?_ | refine awp_exit ?_ | refine awp_ret ?_ | refine awp_cond ?_ | (refine awp_region ?_; intro _) | refine And.intro (fun h => by first | (cases h; done) | exact ⟨by kernel_rfl, by kernel_rfl⟩ | exact ⟨rfl, rfl⟩) ?_ | refine And.intro ?_ (fun h => by (cases h; done)) | intro _)
    refine awp_loop (α := Nat × List Nogood) (fun x => mkS 87 [(2, .ptr 2 0 0 0), (3, .ptr 3 0 0 0), (4, .ptr 4 0 0 0), (21, .sl 2 (l.map cN)), (22, .c (.int .i64 (l.map cN).length)), (23, .c (.int .i64 x.1))]
      [(2, boxC 0 (.c (.slice none 0 0))), (3, boxC bd (.sl 2 (l.map cN))), (4, boxC bd (.own 83 0 0 x.2.length)), (83, rowN x.2)])
      (fun x => x.1 ≤ l.length ∧ x.2.length ≤ x.1 ∧ redP l 0 l = x.2 ++ redP l x.1 (l.drop x.1)) (fun x => l.length - x.1) (0, []) ⟨Nat.zero_le _, Nat.zero_le _, rfl⟩ ?_ ?_
    · repeat (first | exact True.intro | refine And.intro (by first | rfl | exact ⟨rfl, rfl⟩) ?_)
    · intro x ⟨hk, hal, hF⟩
      intro _
      repeat (first | refine awp_seq ?_ | refine awp_block ?_ | refine awp_skip ?_ | refine awp_label ?_ | refine awp_exit ?_ | refine awp_ret ?_ | refine awp_cond ?_ | (refine awp_region ?_; intro _) | refine And.intro (fun h => by first | (cases h; done) | exact ⟨by kernel_rfl, by kernel_rfl⟩ | exact ⟨rfl, rfl⟩) ?_ | refine And.intro ?_ (fun h => by (cases h; done)) | intro _)
      refine And.intro (fun ht => ?_) (fun ht => ?_)
      · have hlt : x.1 < l.length := by simpa using ht
        obtain ⟨a, ha, hd⟩ := some_at rfl hlt
        have hsa := nogood_in hl ha
        rw [hd, redP] at hF
        repeat (first | refine awp_seq ?_ | refine awp_block ?_ | refine awp_skip ?_ | refine awp_label ?_ | refine awp_exit ?_ | refine awp_ret ?_ | refine awp_cond ?_ | (refine awp_region ?_; intro _) | refine And.intro (fun h => by first | (cases h; done) | exact ⟨by kernel_rfl, by kernel_rfl⟩ | exact ⟨rfl, rfl⟩) ?_ | refine And.intro ?_ (fun h => by (cases h; done)) | intro _)
        refine Exists.intro (cN a) (And.intro (map_at ha) ?_)
        intro _
        repeat (first | refine awp_seq ?_ | refine awp_block ?_ | refine awp_skip ?_ | refine awp_label ?_ | refine awp_exit ?_ | refine awp_ret ?_ | refine awp_cond ?_ | (refine awp_region ?_; intro _) | refine And.intro (fun h => by first | (cases h; done) | exact ⟨by kernel_rfl, by kernel_rfl⟩ | exact ⟨rfl, rfl⟩) ?_ | refine And.intro ?_ (fun h => by (cases h; done)) | refine And.intro (Int.natCast_nonneg _) ?_ | intro _)
        refine awp_loop (α := Nat × Bool) (fun y => mkS 87 [(2, .ptr 2 0 0 0), (3, .ptr 3 0 0 0), (4, .ptr 4 0 0 0), (5, .c (.int .i64 x.1)), (6, .ptr 6 0 0 0), (7, .c (.bool y.2)), (21, .sl 2 (l.map cN)), (22, .c (.int .i64 (l.map cN).length)), (23, .c (.int .i64 x.1)), (29, .sl 2 (l.map cN)), (30, .c (.int .i64 (l.map cN).length)), (31, .c (.int .i64 y.1))]
          [(2, boxC 0 (.c (.slice none 0 0))), (3, boxC bd (.sl 2 (l.map cN))), (4, boxC bd (.own 83 0 0 x.2.length)), (6, boxN a), (83, rowN x.2)])
          (fun y => y.1 ≤ l.length ∧ keepP x.1 a 0 l true = keepP x.1 a y.1 (l.drop y.1) y.2) (fun y => l.length - y.1) (0, true) ⟨Nat.zero_le _, rfl⟩ ?_ ?_
        · repeat (first | exact True.intro | refine And.intro (by first | rfl | exact ⟨rfl, rfl⟩ | exact ⟨rfl, frl_cN _⟩) ?_)
        · intro y ⟨hj, hK⟩
          intro _
          repeat (first | refine awp_seq ?_ | refine awp_block ?_ | refine awp_skip ?_ | refine awp_label ?_ | refine awp_exit ?_ | refine awp_ret ?_ | refine awp_cond ?_ | (refine awp_region ?_; intro _) | refine And.intro (fun h => by first | (cases h; done) | exact ⟨by kernel_rfl, by kernel_rfl⟩ | exact ⟨rfl, rfl⟩) ?_ | refine And.intro ?_ (fun h => by (cases h; done)) | intro _)
          refine And.intro (fun ht2 => ?_) (fun ht2 => ?_)
          · have hlt2 : y.1 < l.length := by simpa using ht2
            obtain ⟨b, hb, hdb⟩ := some_at rfl hlt2
            have hsb := nogood_in hl hb
            rw [hdb, keepP] at hK
            have hcon := Contains_A a.1 b.1 hsa hsb
            repeat (first | refine awp_seq ?_ | refine awp_block ?_ | refine awp_skip ?_ | refine awp_label ?_ | refine awp_exit ?_ | refine awp_ret ?_ | refine awp_cond ?_ | (refine awp_region ?_; intro _) | refine And.intro (fun h => by first | (cases h; done) | exact ⟨by kernel_rfl, by kernel_rfl⟩ | exact ⟨rfl, rfl⟩) ?_ | refine And.intro ?_ (fun h => by (cases h; done)) | intro _)
            refine Exists.intro (cN b) (And.intro (map_at hb) ?_)
            intro _
            repeat (first | refine awp_seq ?_ | refine awp_block ?_ | refine awp_skip ?_ | refine awp_label ?_ | refine awp_exit ?_ | refine awp_ret ?_ | refine awp_cond ?_ | (refine awp_region ?_; intro _) | refine And.intro (fun h => by first | (cases h; done) | exact ⟨by kernel_rfl, by kernel_rfl⟩ | exact ⟨rfl, rfl⟩) ?_ | refine And.intro ?_ (fun h => by (cases h; done)) | refine And.intro (Int.natCast_nonneg _) ?_ | intro _)
            refine And.intro (fun h1 => ?_) (fun h1 => ?_)
            · have h1' : y.1 ≠ x.1 := fun e => by rw [e] at h1; simp at h1
              repeat (first | refine awp_seq ?_ | refine awp_block ?_ | refine awp_skip ?_ | refine awp_label ?_ | refine awp_exit ?_ | refine awp_ret ?_ | refine awp_cond ?_ | (refine awp_region ?_; intro _) | refine And.intro (fun h => by first | (cases h; done) | exact ⟨by kernel_rfl, by kernel_rfl⟩ | exact ⟨rfl, rfl⟩) ?_ | refine And.intro ?_ (fun h => by (cases h; done)) | intro _)
              refine And.intro (fun h2 => ?_) (fun h2 => ?_)
              · have h2' : ¬ a.2 < b.2 := by simpa using h2
                repeat (first | refine awp_seq ?_ | refine awp_block ?_ | refine awp_skip ?_ | refine awp_label ?_ | refine awp_exit ?_ | refine awp_ret ?_ | refine awp_cond ?_ | (refine awp_region ?_; intro _) | refine And.intro (fun h => by first | (cases h; done) | exact ⟨by kernel_rfl, by kernel_rfl⟩ | exact ⟨rfl, rfl⟩) ?_ | refine And.intro ?_ (fun h => by (cases h; done)) | intro _)
                refine Exists.intro _ (And.intro (lf_call rfl (Nat.le_of_ble_eq_true rfl) rfl (hcon) (by repeat (first | exact trivial | refine And.intro ?_ ?_)) (by repeat (first | exact trivial | refine And.intro ?_ ?_))) ?_)
                intro _
                repeat (first | refine awp_seq ?_ | refine awp_block ?_ | refine awp_skip ?_ | refine awp_label ?_ | refine awp_exit ?_ | refine awp_ret ?_ | refine awp_cond ?_ | (refine awp_region ?_; intro _) | refine And.intro (fun h => by first | (cases h; done) | exact ⟨by kernel_rfl, by kernel_rfl⟩ | exact ⟨rfl, rfl⟩) ?_ | refine And.intro ?_ (fun h => by (cases h; done)) | intro _)
                refine And.intro (fun h3 => ?_) (fun h3 => ?_)
                · have hsk : skipN x.1 y.1 a b = true := by simp [skipN] at h3 ⊢; simp [h3]
                  rw [hsk, if_pos rfl] at hK
                  repeat (first | refine awp_seq ?_ | refine awp_block ?_ | refine awp_skip ?_ | refine awp_label ?_ | refine awp_exit ?_ | refine awp_ret ?_ | refine awp_cond ?_ | (refine awp_region ?_; intro _) | refine And.intro (fun h => by first | (cases h; done) | exact ⟨by kernel_rfl, by kernel_rfl⟩ | exact ⟨rfl, rfl⟩) ?_ | refine And.intro ?_ (fun h => by (cases h; done)) | intro _)
                  refine Exists.intro (y.1 + 1, y.2) (And.intro ⟨hlt2, hK.trans (by rfl)⟩ (And.intro (by show l.length - (y.1 + 1) < l.length - y.1; omega) ?_))
                  repeat (first | exact True.intro | refine And.intro (by first | rfl | exact ⟨rfl, rfl⟩ | first | exact ⟨rfl, frl_cN _⟩ | (rw [wrap_eq (by omega) (by omega)]; rfl)) ?_)
                · have hsk : skipN x.1 y.1 a b = false := by simp [skipN] at h3 ⊢; exact ⟨⟨h1', by omega⟩, h3⟩
                  rw [hsk, if_neg (by simp)] at hK
                  repeat (first | refine awp_seq ?_ | refine awp_block ?_ | refine awp_skip ?_ | refine awp_label ?_ | refine awp_exit ?_ | refine awp_ret ?_ | refine awp_cond ?_ | (refine awp_region ?_; intro _) | refine And.intro (fun h => by first | (cases h; done) | exact ⟨by kernel_rfl, by kernel_rfl⟩ | exact ⟨rfl, rfl⟩) ?_ | refine And.intro ?_ (fun h => by (cases h; done)) | intro _)
                  refine And.intro (fun h4 => ?_) (fun h4 => ?_)
                  · have h4' : b.2 = a.2 := by simpa using h4
                    have he : eqN a b = ((((a.1.map cF).length : Nat) : Int) == (((b.1.map cF).length : Nat) : Int)) := by rw [Bool.eq_iff_iff]; simp [eqN, h4']; omega
                    rw [he] at hK
                    repeat (first | refine awp_seq ?_ | refine awp_block ?_ | refine awp_skip ?_ | refine awp_label ?_ | refine awp_exit ?_ | refine awp_ret ?_ | refine awp_cond ?_ | (refine awp_region ?_; intro _) | refine And.intro (fun h => by first | (cases h; done) | exact ⟨by kernel_rfl, by kernel_rfl⟩ | exact ⟨rfl, rfl⟩) ?_ | refine And.intro ?_ (fun h => by (cases h; done)) | intro _)
                    refine And.intro (fun h5 => ?_) (fun h5 => ?_)
                    · repeat (first | refine awp_seq ?_ | refine awp_block ?_ | refine awp_skip ?_ | refine awp_label ?_ | refine awp_exit ?_ | refine awp_ret ?_ | refine awp_cond ?_ | (refine awp_region ?_; intro _) | refine And.intro (fun h => by first | (cases h; done) | exact ⟨by kernel_rfl, by kernel_rfl⟩ | exact ⟨rfl, rfl⟩) ?_ | refine And.intro ?_ (fun h => by (cases h; done)) | intro _)
                      refine And.intro (fun h6 => ?_) (fun h6 => ?_)
                      · repeat (first | refine awp_seq ?_ | refine awp_block ?_ | refine awp_skip ?_ | refine awp_label ?_ | refine awp_exit ?_ | refine awp_ret ?_ | refine awp_cond ?_ | (refine awp_region ?_; intro _) | refine And.intro (fun h => by first | (cases h; done) | exact ⟨by kernel_rfl, by kernel_rfl⟩ | exact ⟨rfl, rfl⟩) ?_ | refine And.intro ?_ (fun h => by (cases h; done)) | intro _)
                        refine Exists.intro (y.1 + 1, decide ((y.1 : Int) > x.1)) (And.intro ⟨hlt2, hK.trans (by (rw [h5, h6]; simp))⟩ (And.intro (by show l.length - (y.1 + 1) < l.length - y.1; omega) ?_))
                        repeat (first | exact True.intro | refine And.intro (by first | rfl | exact ⟨rfl, rfl⟩ | first | exact ⟨rfl, frl_cN _⟩ | (rw [wrap_eq (by omega) (by omega)]; rfl)) ?_)
                      · repeat (first | refine awp_seq ?_ | refine awp_block ?_ | refine awp_skip ?_ | refine awp_label ?_ | refine awp_exit ?_ | refine awp_ret ?_ | refine awp_cond ?_ | (refine awp_region ?_; intro _) | refine And.intro (fun h => by first | (cases h; done) | exact ⟨by kernel_rfl, by kernel_rfl⟩ | exact ⟨rfl, rfl⟩) ?_ | refine And.intro ?_ (fun h => by (cases h; done)) | intro _)
                        refine Exists.intro (y.1 + 1, false) (And.intro ⟨hlt2, hK.trans (by (rw [h6]; simp))⟩ (And.intro (by show l.length - (y.1 + 1) < l.length - y.1; omega) ?_))
                        repeat (first | exact True.intro | refine And.intro (by first | rfl | exact ⟨rfl, rfl⟩ | first | exact ⟨rfl, frl_cN _⟩ | (rw [wrap_eq (by omega) (by omega)]; rfl)) ?_)
                    · repeat (first | refine awp_seq ?_ | refine awp_block ?_ | refine awp_skip ?_ | refine awp_label ?_ | refine awp_exit ?_ | refine awp_ret ?_ | refine awp_cond ?_ | (refine awp_region ?_; intro _) | refine And.intro (fun h => by first | (cases h; done) | exact ⟨by kernel_rfl, by kernel_rfl⟩ | exact ⟨rfl, rfl⟩) ?_ | refine And.intro ?_ (fun h => by (cases h; done)) | intro _)
                      refine Exists.intro (y.1 + 1, false) (And.intro ⟨hlt2, hK.trans (by (rw [h5]; simp))⟩ (And.intro (by show l.length - (y.1 + 1) < l.length - y.1; omega) ?_))
                      repeat (first | exact True.intro | refine And.intro (by first | rfl | exact ⟨rfl, rfl⟩ | first | exact ⟨rfl, frl_cN _⟩ | (rw [wrap_eq (by omega) (by omega)]; rfl)) ?_)
                  · have he : eqN a b = false := by simp [eqN] at h4 ⊢; intro e; exact absurd e h4
                    rw [he] at hK
                    repeat (first | refine awp_seq ?_ | refine awp_block ?_ | refine awp_skip ?_ | refine awp_label ?_ | refine awp_exit ?_ | refine awp_ret ?_ | refine awp_cond ?_ | (refine awp_region ?_; intro _) | refine And.intro (fun h => by first | (cases h; done) | exact ⟨by kernel_rfl, by kernel_rfl⟩ | exact ⟨rfl, rfl⟩) ?_ | refine And.intro ?_ (fun h => by (cases h; done)) | intro _)
                    refine And.intro (fun h5 => ?_) (fun h5 => ?_)
                    · repeat (first | refine awp_seq ?_ | refine awp_block ?_ | refine awp_skip ?_ | refine awp_label ?_ | refine awp_exit ?_ | refine awp_ret ?_ | refine awp_cond ?_ | (refine awp_region ?_; intro _) | refine And.intro (fun h => by first | (cases h; done) | exact ⟨by kernel_rfl, by kernel_rfl⟩ | exact ⟨rfl, rfl⟩) ?_ | refine And.intro ?_ (fun h => by (cases h; done)) | intro _)
                      refine Exists.intro (y.1 + 1, false) (And.intro ⟨hlt2, hK.trans (by simp)⟩ (And.intro (by show l.length - (y.1 + 1) < l.length - y.1; omega) ?_))
                      repeat (first | exact True.intro | refine And.intro (by first | rfl | exact ⟨rfl, rfl⟩ | first | exact ⟨rfl, frl_cN _⟩ | (rw [wrap_eq (by omega) (by omega)]; rfl)) ?_)
                    · repeat (first | refine awp_seq ?_ | refine awp_block ?_ | refine awp_skip ?_ | refine awp_label ?_ | refine awp_exit ?_ | refine awp_ret ?_ | refine awp_cond ?_ | (refine awp_region ?_; intro _) | refine And.intro (fun h => by first | (cases h; done) | exact ⟨by kernel_rfl, by kernel_rfl⟩ | exact ⟨rfl, rfl⟩) ?_ | refine And.intro ?_ (fun h => by (cases h; done)) | intro _)
                      refine Exists.intro (y.1 + 1, false) (And.intro ⟨hlt2, hK.trans (by simp)⟩ (And.intro (by show l.length - (y.1 + 1) < l.length - y.1; omega) ?_))
                      repeat (first | exact True.intro | refine And.intro (by first | rfl | exact ⟨rfl, rfl⟩ | first | exact ⟨rfl, frl_cN _⟩ | (rw [wrap_eq (by omega) (by omega)]; rfl)) ?_)
              · have hsk : skipN x.1 y.1 a b = true := by simp [skipN] at h2 ⊢; simp [h2]
                rw [hsk, if_pos rfl] at hK
                repeat (first | refine awp_seq ?_ | refine awp_block ?_ | refine awp_skip ?_ | refine awp_label ?_ | refine awp_exit ?_ | refine awp_ret ?_ | refine awp_cond ?_ | (refine awp_region ?_; intro _) | refine And.intro (fun h => by first | (cases h; done) | exact ⟨by kernel_rfl, by kernel_rfl⟩ | exact ⟨rfl, rfl⟩) ?_ | refine And.intro ?_ (fun h => by (cases h; done)) | intro _)
                refine Exists.intro (y.1 + 1, y.2) (And.intro ⟨hlt2, hK.trans (by rfl)⟩ (And.intro (by show l.length - (y.1 + 1) < l.length - y.1; omega) ?_))
                repeat (first | exact True.intro | refine And.intro (by first | rfl | exact ⟨rfl, rfl⟩ | first | exact ⟨rfl, frl_cN _⟩ | (rw [wrap_eq (by omega) (by omega)]; rfl)) ?_)
            · have hsk : skipN x.1 y.1 a b = true := by simp [skipN] at h1 ⊢; first | exact .inl (.inl h1) | simp [h1] | omega
              rw [hsk, if_pos rfl] at hK
              repeat (first | refine awp_seq ?_ | refine awp_block ?_ | refine awp_skip ?_ | refine awp_label ?_ | refine awp_exit ?_ | refine awp_ret ?_ | refine awp_cond ?_ | (refine awp_region ?_; intro _) | refine And.intro (fun h => by first | (cases h; done) | exact ⟨by kernel_rfl, by kernel_rfl⟩ | exact ⟨rfl, rfl⟩) ?_ | refine And.intro ?_ (fun h => by (cases h; done)) | intro _)
              refine Exists.intro (y.1 + 1, y.2) (And.intro ⟨hlt2, hK.trans (by rfl)⟩ (And.intro (by show l.length - (y.1 + 1) < l.length - y.1; omega) ?_))
              repeat (first | exact True.intro | refine And.intro (by first | rfl | exact ⟨rfl, rfl⟩ | first | exact ⟨rfl, frl_cN _⟩ | (rw [wrap_eq (by omega) (by omega)]; rfl)) ?_)
          · have hge : l.length ≤ y.1 := by simpa using ht2
            have hKf : keepP x.1 a 0 l true = y.2 := by rw [hK, List.drop_eq_nil_of_le hge, keepP]
            rw [hKf] at hF
            repeat (first | refine awp_seq ?_ | refine awp_block ?_ | refine awp_skip ?_ | refine awp_label ?_ | refine awp_exit ?_ | refine awp_ret ?_ | refine awp_cond ?_ | (refine awp_region ?_; intro _) | refine And.intro (fun h => by first | (cases h; done) | exact ⟨by kernel_rfl, by kernel_rfl⟩ | exact ⟨rfl, rfl⟩) ?_ | refine And.intro ?_ (fun h => by (cases h; done)) | intro _)
            refine And.intro (fun h7 => ?_) (fun h7 => ?_)
            · rw [h7, if_pos rfl] at hF
              repeat (first | refine awp_seq ?_ | refine awp_block ?_ | refine awp_skip ?_ | refine awp_label ?_ | refine awp_exit ?_ | refine awp_ret ?_ | refine awp_cond ?_ | (refine awp_region ?_; intro _) | refine And.intro (fun h => by first | (cases h; done) | exact ⟨by kernel_rfl, by kernel_rfl⟩ | exact ⟨rfl, rfl⟩) ?_ | refine And.intro ?_ (fun h => by (cases h; done)) | refine And.intro (by first | rfl | exact List.length_map _ | (show (x.2.length + 1) * 32 ≤ 140737488355328; omega) | (show x.2.length + 1 ≤ 9223372036854775807; omega)) ?_ | intro _)
              refine Exists.intro (x.1 + 1, x.2 ++ [a]) (And.intro ⟨hlt, by simp; omega, by rw [hF]; simp⟩ (And.intro (by show l.length - (x.1 + 1) < l.length - x.1; omega) ?_))
              repeat (first | exact True.intro | refine And.intro (by first | rfl | exact ⟨rfl, rfl⟩ | first | exact ⟨rfl, frl_cN _⟩ | (rw [wrap_eq (by omega) (by omega)]; rfl) | exact ⟨rfl, by simp⟩ | exact ⟨by simp [rowN, cN], FrL_append (frl_cN _) (FrL_map (l := [a]) (fun x _ => fr_cN x))⟩) ?_)
            · rw [h7, if_neg (by simp)] at hF
              repeat (first | refine awp_seq ?_ | refine awp_block ?_ | refine awp_skip ?_ | refine awp_label ?_ | refine awp_exit ?_ | refine awp_ret ?_ | refine awp_cond ?_ | (refine awp_region ?_; intro _) | refine And.intro (fun h => by first | (cases h; done) | exact ⟨by kernel_rfl, by kernel_rfl⟩ | exact ⟨rfl, rfl⟩) ?_ | refine And.intro ?_ (fun h => by (cases h; done)) | intro _)
              refine Exists.intro (x.1 + 1, x.2) (And.intro ⟨hlt, by show x.2.length ≤ x.1 + 1; omega, hF⟩ (And.intro (by show l.length - (x.1 + 1) < l.length - x.1; omega) ?_))
              repeat (first | exact True.intro | refine And.intro (by first | rfl | exact ⟨rfl, rfl⟩ | first | exact ⟨rfl, frl_cN _⟩ | (rw [wrap_eq (by omega) (by omega)]; rfl)) ?_)
      · have hD : redP l 0 l = x.2 := by rw [hF, List.drop_eq_nil_of_le (by simp at ht; omega), redP]; simp
        repeat (first | refine awp_seq ?_ | refine awp_block ?_ | refine awp_skip ?_ | refine awp_label ?_ | refine awp_exit ?_ | refine awp_ret ?_ | refine awp_cond ?_ | (refine awp_region ?_; intro _) | refine And.intro (fun h => by first | (cases h; done) | exact ⟨by kernel_rfl, by kernel_rfl⟩ | exact ⟨rfl, rfl⟩) ?_ | refine And.intro ?_ (fun h => by (cases h; done)) | intro _)
        rw [hD]
        refine And.intro rfl (And.intro trivial (And.intro ⟨rfl, ?_, ?_, frl_cN _, ?_⟩ trivial))
        · show x.2.map cN = (((x.2.map cN)).drop 0).take x.2.length
          rw [List.drop_zero, List.take_of_length_le (by simp)]
        · simp [rowN]
        · omega
  · have hr : reduceC bd l = l := if_neg hz
    rw [hr]
    have hck : ACall cx 13 [aC bd l] (.ifc 55 (.c (.int .i64 (checkF bd l)))) := by
      rw [errA, if_neg hz] at hck
      exact hck
    refine acall_of Tryd.func25 rfl (by decide) rfl (Nat.le_of_ble_eq_true rfl) ?_
    intro _
    repeat (first | refine awp_seq ?_ | refine awp_block ?_ | refine awp_skip ?_ | refine awp_label ?_ | refine awp_exit ?_ | refine awp_ret ?_ | refine awp_cond ?_ | (refine awp_region ?_; intro _) | refine And.intro (fun h => by first | (cases h; done) | exact ⟨by kernel_rfl, by kernel_rfl⟩ | exact ⟨rfl, rfl⟩) ?_ | refine And.intro ?_ (fun h => by (cases h; done)) | intro _)
    refine Exists.intro _ (And.intro (lf_call rfl (Nat.le_of_ble_eq_true rfl) rfl (hcl) (by repeat (first | exact trivial | refine And.intro ?_ ?_)) (by repeat (first | exact trivial | refine And.intro ?_ ?_))) ?_)
    intro _
    repeat (first | refine awp_seq ?_ | refine awp_block ?_ | refine awp_skip ?_ | refine awp_label ?_ | refine awp_exit ?_ | refine awp_ret ?_ | refine awp_cond ?_ | (refine awp_region ?_; intro _) | refine And.intro (fun h => by first | (cases h; done) | exact ⟨by kernel_rfl, by kernel_rfl⟩ | exact ⟨rfl, rfl⟩) ?_ | refine And.intro ?_ (fun h => by (cases h; done)) | intro _)
    refine Exists.intro _ (And.intro (lf_call rfl (Nat.le_of_ble_eq_true rfl) rfl hck (by repeat (first | exact trivial | refine And.intro ?_ ?_)) (.ifc (.c _))) ?_)
    repeat (first | refine awp_seq ?_ | refine awp_block ?_ | refine awp_skip ?_ | refine awp_label ?_ | refine awp_exit ?_ | refine awp_ret ?_ | refine awp_cond ?_ | (refine awp_region ?_; intro _) | refine And.intro (fun h => by first | (cases h; done) | exact ⟨by kernel_rfl, by kernel_rfl⟩ | exact ⟨rfl, rfl⟩) ?_ | refine And.intro ?_ (fun h => by (cases h; done)) | intro _)
    refine And.intro rfl (And.intro ⟨rfl, rfl⟩ trivial)
end Go.Proofs.YticdfbhbbapbdaaDoor.Am
