/- partial.with: a partial state with a further fact. -/
import Derived.Test.YtpogmkplmcedlaaInsert
import Derived.Test.YtpogmkplmcedlaaCloneF
import Derived.Test.YtpogmkplmcedlaaPlainF
import Derived.Deep.RegionHeld3
namespace Go.Proofs.Ytpogmkplmcedlaa
open Go.RowKit

def posF : List Fact → Int → Nat
  | [], _ => 0
  | x :: r, v => if x.1 < v then posF r v + 1 else 0
theorem posF_le (l : List Fact) (v : Int) : posF l v ≤ l.length := by
  induction l with
  | nil => simp [posF]
  | cons x r ih => rw [posF]; split <;> simp <;> omega
def pwithF (l : List Fact) (x : Fact) : List Fact := insF l (posF l x.1) x
theorem pwithF_mem (l : List Fact) (x z : Fact) : z ∈ pwithF l x ↔ z ∈ l ∨ z = x := by
  unfold pwithF insF
  have h := List.take_append_drop (posF l x.1) l
  constructor
  · intro hz
    rcases List.mem_append.1 hz with hz | hz
    · exact .inl (List.mem_of_mem_take hz)
    · rcases List.mem_cons.1 hz with hz | hz
      · exact .inr hz
      · exact .inl (List.mem_of_mem_drop hz)
  · rintro (hz | hz)
    · rw [← h] at hz
      rcases List.mem_append.1 hz with hz | hz
      · exact List.mem_append.2 (.inl hz)
      · exact List.mem_append.2 (.inr (List.mem_cons_of_mem _ hz))
    · subst hz; simp
theorem pwithF_asc (l : List Fact) (x : Fact) (h : Asc l) (hx : ∀ z ∈ l, z.1 ≠ x.1) : Asc (pwithF l x) := by
  induction l with
  | nil => simp [pwithF, insF, posF, Asc]
  | cons y r ih =>
    obtain ⟨h1, h2⟩ := List.pairwise_cons.1 h
    unfold pwithF
    rw [posF]
    split
    · rename_i hlt
      have e : insF (y :: r) (posF r x.1 + 1) x = y :: pwithF r x := by simp [insF, pwithF]
      rw [e]
      refine List.pairwise_cons.2 ⟨fun z hz => ?_, ih h2 (fun z hz => hx z (by simp [hz]))⟩
      rcases (pwithF_mem r x z).1 hz with hz | hz
      · exact h1 z hz
      · subst hz; exact hlt
    · rename_i hge
      have hne := hx y (by simp)
      have e : insF (y :: r) 0 x = x :: y :: r := by simp [insF]
      rw [e]
      refine List.pairwise_cons.2 ⟨fun z hz => ?_, h⟩
      rcases List.mem_cons.1 hz with hz | hz
      · subst hz; omega
      · have := h1 z hz; omega
theorem pwithF_eq (l : List Fact) (x : Fact) (h : Asc l) (hx : ∀ z ∈ l, z.1 ≠ x.1) : pwithF l x = withF l x :=
  asc_unique _ _ (pwithF_asc l x h hx) (withF_asc h hx) (fun z => by rw [pwithF_mem, withF_mem])
theorem pwithF_len (l : List Fact) (x : Fact) : (pwithF l x).length = l.length + 1 := insF_len l _ x (posF_le l _)
theorem posF_take (l : List Fact) (v : Int) (k : Nat) (h : posF l v = k + posF (l.drop k) v) (x : Fact) (hx : l.drop k = x :: l.drop (k + 1)) :
    posF l v = if x.1 < v then k + 1 + posF (l.drop (k + 1)) v else k := by
  rw [hx, posF] at h
  split at h
  · rw [if_pos (by assumption)]; omega
  · rw [if_neg (by assumption)]; omega

set_option maxHeartbeats 2000000 in
theorem pwith_calls (v : Value) (l : List Fact) (x1 x2 : Int) (w : World) (hv : FactsAt w v l) (hroom : (l.length + 1) * 16 ≤ 140737488355328) :
    Calls Try.prog 44 #[v, .agg #[.int .i64 x1, .int .i64 x2]] w fun e w' => ∃ v', e = .returned v' ∧ OwnF w' w.heap.size v' (pwithF l (x1, x2)) ∧ Below w.heap.size w w' := by
  obtain ⟨A, n, c, rfl, hn, hm⟩ := hv.form
  have HV := Lib.hid hv
  have HN := Lib.hid hn
  clear hv hn
  go_enter Try.func44, Try.ntmps44
  go_wp2
  go_loopg [5] n (fun g i wr => ∃ k : Nat, k ≤ n ∧ g = n - k ∧ i = .int .i64 k ∧ Below w.heap.size w wr ∧ wr.heap[w.heap.size]? = some (.cells #[.int .i64 x1, .int .i64 x2] 56 (0, 0)) ∧ posF l x1 = k + posF (l.drop k) x1)
  case atStart => exact ⟨0, Nat.zero_le _, by omega, rfl, belowA (Below.refl _ _) _, heap_alloc_new _ _, by simp⟩
  case round =>
    obtain ⟨k, hk, hg, rfl, hB, hbox, hF⟩ := hrel
    have q0 : wr.cell? ⟨w.heap.size, 0, none⟩ = some (.int .i64 x1) := by simp [World.cell?, hbox]
    have q1 : wr.cell? ⟨w.heap.size, 1, none⟩ = some (.int .i64 x2) := by simp [World.cell?, hbox]
    have HG := Lib.hid hg
    have HF := Lib.hid hF
    have HBOX := Lib.hid hbox
    clear hg hF hbox
    by_cases hlt : k < n
    · obtain ⟨bb, off, y1, y2, rfl, c0, c1, hx, hd⟩ := (HV.out.keep hB).at hlt
      have hst := posF_take l x1 k HF.out (y1, y2) hd
      simp only at hst
      have HX := Lib.hid hx
      have HD := Lib.hid hd
      have HST := Lib.hid hst
      clear hx hd hst
      have d0 : decide (k < n) = true := by simpa using hlt
      go_upto_if 19 with fail
      go_cut [19] (fun s wx => s = .bool (decide (y1 < x1)) ∧ ∃ q, wx = wr.drewN q)
      case first =>
        refine wp_region_quiet_lit (by kernel_rfl) (by kernel_rfl) ?_
        repeat (any_goals (first | go_big_quiet_step (fail) | quiet_step (fail) | (refine wpQuiet_step (fun K hK => ?_); go_simp; split <;> (refine hK _ ?_; clear hK K))))
        all_goals (refine wpQuiet_nil ?_; intro _ hw'; obtain ⟨nq, hw''⟩ := hw'; subst hw'')
        all_goals (go_wp2_with fail; go_meet; exact ⟨rfl, _, rfl⟩)
      case rest =>
        obtain ⟨rfl, q, rfl⟩ := hcut
        by_cases hc : y1 < x1
        · have hnext : posF l x1 = k + 1 + posF (l.drop (k + 1)) x1 := by rw [HST.out, if_pos hc]
          have HNEXT := Lib.hid hnext
          clear hnext
          go_wp2_with fail
          go_roundg (n - (k + 1))
          case measure => have := HG.out; omega
          case rel => exact ⟨k + 1, by omega, rfl, by go_num, below_drewN hB _, HBOX.out, HNEXT.out⟩
        · have hpos : posF l x1 = k := by rw [HST.out, if_neg hc]
          have HPOS := Lib.hid hpos
          clear hpos
          have hB' := below_drewN hB q
          have hB0 : Below w.heap.size w (wr.drewN q) := hB'
          have hbox' : ((wr.drewN q)).heap[w.heap.size]? = some (.cells #[.int .i64 x1, .int .i64 x2] 56 (0, 0)) := HBOX.out
          have hvk : FactsAt (wr.drewN q) _ l := HV.out.keep hB'
          have HBB := Lib.hid hB'
          have HBX := Lib.hid hbox'
          have HVK := Lib.hid hvk
          clear hB' hbox' hvk
          go_upto_region 4 with fail
          generalize (wr.drewN q) = W0 at hB0 HBX HVK ⊢
          have q0 : W0.cell? ⟨w.heap.size, 0, none⟩ = some (.int .i64 x1) := by simp [World.cell?, HBX.out]
          have q1 : W0.cell? ⟨w.heap.size, 1, none⟩ = some (.int .i64 x2) := by simp [World.cell?, HBX.out]
          generalize hBq : w.heap.size = B0 at *
          have HBQ := Lib.hid hBq
          clear hBq
          go_region_held3 (fun w' => w'.cell? ⟨B0, 0, none⟩ = some (.int .i64 x1) ∧ w'.cell? ⟨B0, 1, none⟩ = some (.int .i64 x2))
            (first | exact ⟨s0, s1⟩ | exact ⟨kept (belowA (Below.refl _ _) _) r0, kept (belowA (Below.refl _ _) _) r1⟩ | exact ⟨r0, r1⟩ | exact ⟨q0, q1⟩ | exact ⟨kept ((belowA (Below.refl _ _) _).drew) q0, kept ((belowA (Below.refl _ _) _).drew) q1⟩ | exact ⟨kept (belowA (Below.refl _ _) _) q0, kept (belowA (Below.refl _ _) _) q1⟩)
            (first
              | (go_at_call 30; (with_reducible refine (cloneF_calls _ l _ (HVK.out.keep (Below.refl _ _).drew)).mono ?_); rintro e w1 ⟨v1, rfl, hown1, hb1⟩; have r0 := kept hb1 q0; have r1 := kept hb1 q1; have HOW1 := Lib.hid hown1; have HBW1 := Lib.hid hb1; clear hown1 hb1)
              | (go_at_call 55; (with_reducible refine (insert_calls W0.heap.size w1.heap.size k v1 l x1 x2 _ (ownF_keep HOW1.out (belowA (Below.refl _ _) _)) (by have := posF_le l x1; have := HPOS.out; omega) hroom (by have := HBW1.out.size; simp at this ⊢; omega) (heap_alloc_new _ _) (fun g hg e => by have := (HOW1.out.lt g hg).2; omega)).mono ?_); rintro e w2 ⟨v2, rfl, hown2, hb2⟩; have HBW2 := Lib.hid (Below.trans HBW1.out (Below.trans (belowA (Below.refl _ _) _ |>.mono HBW1.out.size) hb2)); have s0 := kept HBW2.out q0; have s1 := kept HBW2.out q1; have HOW2 := Lib.hid hown2; clear hown2 hb2)
              | (go_at_call 30; (with_reducible refine (cloneF_calls _ l _ (HVK.out.keep ((belowA (Below.refl _ _) (.cells #[.int .i64 x1, .int .i64 x2] 56)).drew))).mono ?_); rintro e w1 ⟨v1, rfl, hown1, hb1⟩; have HVB1 : Hid (w1.heap[W0.heap.size]? = some (.cells #[.int .i64 x1, .int .i64 x2] 56 (0, 0))) := (hb1.block W0.heap.size (by simp)).trans (heap_alloc_new W0 (.cells #[.int .i64 x1, .int .i64 x2] 56)); have HBW1 : Hid (Below W0.heap.size W0 w1) := belowT ((belowA (Below.refl W0.heap.size W0) (.cells #[.int .i64 x1, .int .i64 x2] 56)).drew) hb1; have HOW1 := Lib.hid hown1; have r0 := kept HBW1.out q0; have r1 := kept HBW1.out q1; clear hown1 hb1)
              | (go_at_call 55; (with_reducible refine (insert_calls W0.heap.size W0.heap.size k v1 l x1 x2 w1 (own_mono HOW1.out (by simp)) (by have := posF_le l x1; have := HPOS.out; omega) hroom HBW1.out.size HVB1.out (fun g hg e => by have := (HOW1.out.lt g hg).1; simp at this; omega)).mono ?_); rintro e w2 ⟨v2, rfl, hown2, hb2⟩; have HBW2 := Lib.hid (Below.trans HBW1.out hb2); have s0 := kept HBW2.out q0; have s1 := kept HBW2.out q1; have HOW2 := Lib.hid hown2; clear hown2 hb2)
              | fail)
          all_goals
            go_wp2_with fail
            go_ret
            have hBq := HBQ.out
            subst hBq
            refine ⟨v2, rfl, ?_, by first | exact Below.trans hB0 (HBW2.out.mono hB0.size) | exact Below.trans hB0.drew (HBW2.out.mono hB0.size)⟩
            unfold pwithF
            rw [show posF l (x1, x2).1 = k from HPOS.out]
            exact own_mono HOW2.out hB0.size
    · have hpos : posF l x1 = k := by rw [HF.out, List.drop_eq_nil_of_le (by have := HN.out; omega)]; simp [posF]
      have HPOS := Lib.hid hpos
      clear hpos
      have d0 : decide (k < n) = false := by simpa using hlt
      go_upto_if 19 with fail
      go_cut [19] (fun s wx => s = .bool false ∧ ∃ q, wx = wr.drewN q)
      case first =>
        refine wp_region_quiet_lit (by kernel_rfl) (by kernel_rfl) ?_
        repeat (any_goals (first | go_big_quiet_step (fail) | quiet_step (fail) | (refine wpQuiet_step (fun K hK => ?_); go_simp; split <;> (refine hK _ ?_; clear hK K))))
        all_goals (refine wpQuiet_nil ?_; intro _ hw'; obtain ⟨nq, hw''⟩ := hw'; subst hw'')
        all_goals (go_wp2_with fail; go_meet; exact ⟨rfl, _, rfl⟩)
      case rest =>
        obtain ⟨rfl, q, rfl⟩ := hcut
        have hB' := below_drewN hB q
        have hB0 : Below w.heap.size w (wr.drewN q) := hB'
        have hbox' : ((wr.drewN q)).heap[w.heap.size]? = some (.cells #[.int .i64 x1, .int .i64 x2] 56 (0, 0)) := HBOX.out
        have hvk : FactsAt (wr.drewN q) _ l := HV.out.keep hB'
        have HBB := Lib.hid hB'
        have HBX := Lib.hid hbox'
        have HVK := Lib.hid hvk
        clear hB' hbox' hvk
        go_upto_region 4 with fail
        generalize (wr.drewN q) = W0 at hB0 HBX HVK ⊢
        have q0 : W0.cell? ⟨w.heap.size, 0, none⟩ = some (.int .i64 x1) := by simp [World.cell?, HBX.out]
        have q1 : W0.cell? ⟨w.heap.size, 1, none⟩ = some (.int .i64 x2) := by simp [World.cell?, HBX.out]
        generalize hBq : w.heap.size = B0 at *
        have HBQ := Lib.hid hBq
        clear hBq
        go_region_held3 (fun w' => w'.cell? ⟨B0, 0, none⟩ = some (.int .i64 x1) ∧ w'.cell? ⟨B0, 1, none⟩ = some (.int .i64 x2))
          (first | exact ⟨s0, s1⟩ | exact ⟨kept (belowA (Below.refl _ _) _) r0, kept (belowA (Below.refl _ _) _) r1⟩ | exact ⟨r0, r1⟩ | exact ⟨q0, q1⟩ | exact ⟨kept ((belowA (Below.refl _ _) _).drew) q0, kept ((belowA (Below.refl _ _) _).drew) q1⟩ | exact ⟨kept (belowA (Below.refl _ _) _) q0, kept (belowA (Below.refl _ _) _) q1⟩)
          (first
            | (go_at_call 30; (with_reducible refine (cloneF_calls _ l _ (HVK.out.keep (Below.refl _ _).drew)).mono ?_); rintro e w1 ⟨v1, rfl, hown1, hb1⟩; have r0 := kept hb1 q0; have r1 := kept hb1 q1; have HOW1 := Lib.hid hown1; have HBW1 := Lib.hid hb1; clear hown1 hb1)
            | (go_at_call 55; (with_reducible refine (insert_calls W0.heap.size w1.heap.size k v1 l x1 x2 _ (ownF_keep HOW1.out (belowA (Below.refl _ _) _)) (by have := posF_le l x1; have := HPOS.out; omega) hroom (by have := HBW1.out.size; simp at this ⊢; omega) (heap_alloc_new _ _) (fun g hg e => by have := (HOW1.out.lt g hg).2; omega)).mono ?_); rintro e w2 ⟨v2, rfl, hown2, hb2⟩; have HBW2 := Lib.hid (Below.trans HBW1.out (Below.trans (belowA (Below.refl _ _) _ |>.mono HBW1.out.size) hb2)); have s0 := kept HBW2.out q0; have s1 := kept HBW2.out q1; have HOW2 := Lib.hid hown2; clear hown2 hb2)
            | (go_at_call 30; (with_reducible refine (cloneF_calls _ l _ (HVK.out.keep ((belowA (Below.refl _ _) (.cells #[.int .i64 x1, .int .i64 x2] 56)).drew))).mono ?_); rintro e w1 ⟨v1, rfl, hown1, hb1⟩; have HVB1 : Hid (w1.heap[W0.heap.size]? = some (.cells #[.int .i64 x1, .int .i64 x2] 56 (0, 0))) := (hb1.block W0.heap.size (by simp)).trans (heap_alloc_new W0 (.cells #[.int .i64 x1, .int .i64 x2] 56)); have HBW1 : Hid (Below W0.heap.size W0 w1) := belowT ((belowA (Below.refl W0.heap.size W0) (.cells #[.int .i64 x1, .int .i64 x2] 56)).drew) hb1; have HOW1 := Lib.hid hown1; have r0 := kept HBW1.out q0; have r1 := kept HBW1.out q1; clear hown1 hb1)
            | (go_at_call 55; (with_reducible refine (insert_calls W0.heap.size W0.heap.size k v1 l x1 x2 w1 (own_mono HOW1.out (by simp)) (by have := posF_le l x1; have := HPOS.out; omega) hroom HBW1.out.size HVB1.out (fun g hg e => by have := (HOW1.out.lt g hg).1; simp at this; omega)).mono ?_); rintro e w2 ⟨v2, rfl, hown2, hb2⟩; have HBW2 := Lib.hid (Below.trans HBW1.out hb2); have s0 := kept HBW2.out q0; have s1 := kept HBW2.out q1; have HOW2 := Lib.hid hown2; clear hown2 hb2)
            | fail)
        all_goals
          go_wp2_with fail
          go_ret
          have hBq := HBQ.out
          subst hBq
          refine ⟨v2, rfl, ?_, by first | exact Below.trans hB0 (HBW2.out.mono hB0.size) | exact Below.trans hB0.drew (HBW2.out.mono hB0.size)⟩
          unfold pwithF
          rw [show posF l (x1, x2).1 = k from HPOS.out]
          exact own_mono HOW2.out hB0.size
end Go.Proofs.Ytpogmkplmcedlaa
