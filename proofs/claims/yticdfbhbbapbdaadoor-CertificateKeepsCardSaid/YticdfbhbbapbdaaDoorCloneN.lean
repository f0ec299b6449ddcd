/- certificate.clone. -/
import Derived.Test.YticdfbhbbapbdaaDoorRowN
namespace Go.Proofs.YticdfbhbbapbdaaDoor
open Go.RowKit

theorem ownN_append {W w' : World} {base : Nat} {v v' : Value} {l : List Nogood} {its : List Item} {x : Item} (h1 : its.map (·.2) = l) (hor : W.ownsRow base 45 2 v l.length (itemCells its)) (he : ∀ y ∈ its, EntN W base y) (hx : EntN W base x)
    (ho : w'.ownsRow base 45 2 v' (l.length + 1) (itemCells its ++ itemCells [x])) (hg : W.grownBy w' v.ownBlock) : OwnN w' base v' (l ++ [x.2]) := by
  have key : ∀ y, EntN W base y → EntN w' base y := by
    intro y hy
    rcases hor.2 with ⟨rfl, _⟩ | ⟨g, cap, cur, rfl, _, hh, _⟩
    · exact hy.kept hg (fun r e => by simp [Value.ownBlock] at e)
    · exact hy.other hg hh
  refine ⟨its ++ [x], by simp [h1], ?_, fun y hy => ?_⟩
  · rw [itemCells_append, List.length_append]; exact ho
  · rcases List.mem_append.1 hy with hy | hy
    · exact key y (he y hy)
    · simp at hy; subst hy; exact key y hx

theorem OwnN.mono {w : World} {base base' : Nat} {v : Value} {l : List Nogood} (h : OwnN w base v l) (hb : base' ≤ base) : OwnN w base' v l := by
  obtain ⟨its, h1, h2, h3⟩ := h
  exact ⟨its, h1, own_mono h2 hb, fun x hx => ⟨own_mono (h3 x hx).1 hb, (h3 x hx).2⟩⟩
/-- a call of a Go function as one step of a region that draws -/
theorem step_call {P : Program} {ops : Array Oper} {o : Oper} {a : Act} {w : World} {K : Act → World → Prop} {Q : Exit → Act → World → Prop} {E : Prop} (hgd : o.guard = none) (f : FuncId) (args : Array Value)
    (hrun : (execOp a.eval o).run P w = .ok (.enter f args) w) {R : Ending → World → Prop} (hc : Calls P f args w R) (h : ∀ e w', R e w' → ∃ v, e = .returned v ∧ K (a.put o.dst v) w') :
    if Region.wanted o (yielded ops a.tmps) = true then Oper.wp P o a w K Q else E := by
  have hw : Region.wanted o (yielded ops a.tmps) = true := by simp [Region.wanted, hgd]
  rw [if_pos hw]
  unfold Oper.wp
  rw [hrun, Oper.upon_enter]
  refine hc.mono fun e w' hh => ?_
  obtain ⟨v, rfl, hk⟩ := h e w' hh
  exact hk
/-- what an append does to the row of the clone -/
theorem clone_append {wr w1 : World} {B k oc : Nat} {oA : Option Addr} {l : List Nogood} {its : List Item} {A1 : Option Addr} {c1 : Nat} {x : List Fact} {bs : Nat}
    (ho1 : OwnF w1 bs (.slice A1 x.length c1) x) (hb : Below wr.heap.size wr w1) (hsz : B + 3 ≤ wr.heap.size) (hi1 : its.map (·.2) = l.take k) (hlk : (l.take k).length = k) (hor : wr.ownsRow (B + 3) 45 2 (.slice oA k oc) k (itemCells its)) (hien : ∀ y ∈ its, EntN wr (B + 3) y) (xd : Int) (hx : x.length * 16 ≤ 140737488355328 ∧ wr.heap.size ≤ bs) :
    ∀ {ops : Array Oper} {o : Oper} {a : Act} {K : Act → World → Prop} {Q : Exit → Act → World → Prop} {E : Prop} (_ : o.guard = none) (s y : Operand) (_ : o.op = .call { callee := .builtin .append, args := #[s, y], argTypes := #[23, 23] }) (_ : a.eval s = .slice oA k oc) (_ : a.eval y = .slice (some ⟨w1.heap.size, 0, none⟩) 1 1) (_ : (k + 1) * 32 ≤ 140737488355328)
      (_ : ∀ v' w', OwnN w' (B + 3) v' (l.take k ++ [(x, xd)]) → ((∀ (p : Addr) u, wr.cell? p = some u → p.block < B + 3 → w'.cell? p = some u) ∧ (∀ g ob, g < B + 3 → wr.heap[g]? = some ob → w'.heap[g]? = some ob) ∧ Below (B + 3) wr w') → K (a.put o.dst v') w'),
      if Region.wanted o (yielded ops a.tmps) = true then Oper.wp Tryd.prog o a (w1.alloc (.cells #[.slice A1 x.length c1, .int .i64 xd] 45)) K Q else E := by
  intro ops o a K Q E hgd s y hop hs hy hroom h
  obtain ⟨i0, hi0, hz0, hz1, hz2⟩ := info_parts nogoodInfo
  have hBW : Below w1.heap.size w1 (w1.alloc (.cells #[.slice A1 x.length c1, .int .i64 xd] 45)) := belowA (Below.refl _ _) _
  have hB2 := belowT hb hBW
  have hor2 := hor.kept (grown_of_below hB2 none) (by cases (Value.slice oA k oc).ownBlock <;> simp)
  have hien2 : ∀ z ∈ its, EntN (w1.alloc (.cells #[.slice A1 x.length c1, .int .i64 xd] 45)) (B + 3) z := fun z hz => (hien z hz).kept (grown_of_below hB2 none) (fun r e => by cases e)
  have hex : EntN (w1.alloc (.cells #[.slice A1 x.length c1, .int .i64 xd] 45)) (B + 3) ((A1, x.length, c1), (x, xd)) := ⟨own_mono (ownF_keep ho1 hBW) (by omega), hx.1⟩
  have hrd : Reads (w1.alloc (.cells #[.slice A1 x.length c1, .int .i64 xd] 45)) (w1.heap.size + 1) 2 (some ⟨w1.heap.size, 0, none⟩) 1 (itemCells [((A1, x.length, c1), (x, xd))]) :=
    ⟨rfl, fun _ => ⟨_, rfl, by simp, cells_at (heap_alloc_new w1 (.cells #[.slice A1 x.length c1, .int .i64 xd] 45)) 0 _ (fun j u hu => by simpa [itemCells] using hu)⟩⟩
  refine step_append_any _ hgd s y _ hop (B + 3) 45 i0 _ 2 32 Tryd.underlying23 hi0 hz0 hz1 hz2 rfl (by omega) (.slice oA k oc) k (itemCells its) hs hor2 _ _ 1 1 _ hy hrd (itemCells_one _) (by simp only [maxLen]; omega) hroom (by have := hb.size; simp; omega) ?_
  intro v' w' g1 g2 _
  have hbl : Below (B + 3) (w1.alloc (.cells #[.slice A1 x.length c1, .int .i64 xd] 45)) w' := below_of_grown g2 (by have := hb.size; simp; omega) (fun r hr => (hor2.lt r hr).1)
  have hbl2 : Below (B + 3) wr w' := (hB2.mono hsz).trans hbl
  refine h v' w' ?_ ⟨fun p u hu hp => by rw [hbl2.cell hp]; exact hu, fun g ob hg hob => by rw [hbl2.block g hg]; exact hob, hbl2⟩
  exact ownN_append hi1 (by rw [hlk]; exact hor2) hien2 hex (by rw [hlk]; exact g1) g2

set_option maxHeartbeats 4000000 in
set_option maxRecDepth 100000 in
theorem clone_calls (bd : Int) (v : Value) (l : List Nogood) (w : World) (hv : NogoodsAt w v l) :
    Calls Tryd.prog 43 #[.agg #[.int .i64 bd, v]] w fun e w' => ∃ v', e = .returned (.agg #[.int .i64 bd, v']) ∧ OwnN w' w.heap.size v' l ∧ Below w.heap.size w w' := by
  obtain ⟨A, n, c, rfl, hn, hm⟩ := hv.form
  obtain ⟨i0, hi0, hz0, hz1, hz2⟩ := info_parts nogoodInfo
  have hroom : n * 32 ≤ 140737488355328 := by obtain ⟨_, _, hv', hl, _⟩ := id hv; injection hv' with _ h2 _; omega
  have HV := Lib.hid hv
  have HN := Lib.hid hn
  clear hv hn
  go_enter Tryd.func43, Tryd.ntmps43
  go_wp2
  go_loopg [12] n (fun gh i wr => ∃ (k : Nat) (ov : Value), k ≤ n ∧ gh = n - k ∧ i = .int .i64 k ∧ Below w.heap.size w wr ∧ w.heap.size + 3 ≤ wr.heap.size ∧ wr.heap[w.heap.size + 2]? = some (.cells #[.int .i64 bd, ov] 25 (0, 0)) ∧ wr.heap[w.heap.size + 1]? = some (.cells #[.int .i64 0, .slice none 0 0] 25 (0, 0)) ∧ OwnN wr (w.heap.size + 3) ov (l.take k))
  case atStart => exact ⟨0, .slice none 0 0, Nat.zero_le _, by omega, by go_num, belowA (belowA (belowA (Below.refl _ _) _) _) _, by simp, by have := heap_alloc_new ((w.alloc (.cells #[.int .i64 bd, .slice A n c] 25)).alloc (.cells #[.int .i64 0, .slice none 0 0] 25)) (.cells #[.int .i64 bd, .slice none 0 0] 25); simpa using this, by have := heap_alloc_new (w.alloc (.cells #[.int .i64 bd, .slice A n c] 25)) (.cells #[.int .i64 0, .slice none 0 0] 25); rw [(belowA (Below.refl _ _) _).block _ (by simp)]; simpa using this, OwnN.nil_ _ _⟩
  case round =>
    obtain ⟨k, ov, hk, hg, rfl, hB, hsz, hb2, hb1, hown⟩ := hrel
    by_cases hlt : k < n
    · obtain ⟨bb, off, xA, xn, xc, x, xd, rfl, c0, hxn, hxm, hxv, c1, hx, hd⟩ := (HV.out.keep hB).at hlt
      have hbr : bb < wr.heap.size := lt_of_cell c0
      obtain ⟨oA, oc, rfl⟩ := hown.form
      have hlk : (l.take k).length = k := by rw [List.length_take]; have := HN.out; omega
      rw [hlk] at hb2 hown
      have k1 : wr.cell? ⟨w.heap.size + 2, 1, none⟩ = some (.slice oA k oc) := by simp [World.cell?, hb2]
      have kf : ∀ j, wr.frozen? ⟨w.heap.size + 2, j, none⟩ = false := fun j => by simp [World.frozen?, hb2]
      have hcl := fun (W : World) (hb : Below wr.heap.size wr W) => cloneF_calls _ x W (hxv.keep hb)
      have HG := Lib.hid hg
      have HB := Lib.hid hB
      have HB2 := Lib.hid hb2
      have HB1 := Lib.hid hb1
      have HOWN := Lib.hid hown
      have HXN := Lib.hid hxn
      have HXV := Lib.hid hxv
      have HX := Lib.hid hx
      have HD := Lib.hid hd
      have HLK := Lib.hid hlk
      have HCL := Lib.hid hcl
      clear hg hB hb2 hb1 hown hxn hxv hx hd hlk hcl
      have hbn : Below wr.heap.size wr (wr.alloc (.cells #[.slice xA xn xc, .int .i64 xd] 45)) := belowA (Below.refl _ _) _
      have j0 : (wr.alloc (.cells #[.slice xA xn xc, .int .i64 xd] 45)).cell? ⟨wr.heap.size, 0, none⟩ = some (.slice xA xn xc) := by simp
      have j1 : (wr.alloc (.cells #[.slice xA xn xc, .int .i64 xd] 45)).cell? ⟨wr.heap.size, 1, none⟩ = some (.int .i64 xd) := by simp
      have j2 := kept hbn k1
      have HBN := Lib.hid hbn
      clear hbn
      go_upto_region 5 with fail
      generalize wr.alloc (.cells #[.slice xA xn xc, .int .i64 xd] 45) = W0 at j0 j1 j2 HBN ⊢
      obtain ⟨its, hi1, hor, hien⟩ := HOWN.out
      rw [HLK.out] at hor
      have HI1 := Lib.hid hi1
      have HOR := Lib.hid hor
      have HIEN := Lib.hid hien
      clear hi1 hor hien
      have hxr : x.length * 16 ≤ 140737488355328 ∧ wr.heap.size ≤ W0.drew.heap.size := ⟨by obtain ⟨_, _, _, hl, _⟩ := HXV.out; exact hl, HBN.out.size⟩
      have HXR := Lib.hid hxr
      clear hxr
      have hz3 : w.heap.size + 2 < w.heap.size + 3 := by omega
      have hroom1 : (k + 1) * 32 ≤ 140737488355328 := by omega
      go_region_law (first
        | (rw [if_pos (by simp [Region.wanted])]; unfold Oper.wp; go_simp; refine (HCL.out _ (Below.drew HBN.out)).mono ?_; rintro e w1 ⟨v1, rfl, hown1, hb1⟩; obtain ⟨A1, c1', rfl⟩ := hown1.form; have m1 := kept hb1 j1; have m2 := kept hb1 j2; have HO1 := Lib.hid hown1; have HBW1 : Hid (Below wr.heap.size wr w1) := belowT (Below.drew HBN.out) hb1; have n1 : w.heap.size + 2 < w1.heap.size := (by have := HBW1.out.size; omega); have n2 : w.heap.size + 1 + 1 < w1.heap.size := (by have := HBW1.out.size; omega); have m3 : w1.cell? ⟨w.heap.size + 1 + 1, 1, none⟩ = some (.slice oA k oc) := m2; clear hown1 hb1)
        | (refine clone_append HO1.out HBW1.out hsz HI1.out HLK.out HOR.out HIEN.out xd HXR.out rfl (.tmp 17) (.tmp 24) rfl (by simp [Act.eval]) (by simp [Act.eval]) hroom1 ?_; intro v5 w5 hown5 hg5; have HO5 := Lib.hid hown5; have HG5 := Lib.hid hg5; have s0 := HG5.out.2.1 (w.heap.size + 2) _ hz3 HB2.out; have s1 : w5.cell? ⟨w.heap.size + 2, 1, none⟩ = some (.slice oA k oc) := (by simp [World.cell?, s0]); have s2 : ∀ j, w5.frozen? ⟨w.heap.size + 2, j, none⟩ = false := (fun j => (by simp [World.frozen?, s0])); have HS0 := Lib.hid s0; clear s0; obtain ⟨A5, c5, hv5⟩ := hown5.form; obtain ⟨L5, hL5⟩ : ∃ L5, L5 = (l.take k ++ [(x, xd)]).length := ⟨_, rfl⟩; rw [← hL5] at hv5; subst hv5; have HL5 := Lib.hid hL5; clear hown5 hg5 hL5))
      all_goals
        go_wp2_with fail
        go_roundg (n - (k + 1))
        case measure => have := HG.out; omega
        case rel =>
          have hset := set_grown (i := 1) HS0.out (.slice A5 L5 c5)
          have htk : l.take (k + 1) = l.take k ++ [(x, xd)] := by rw [List.take_add_one, HX.out]; rfl
          have hbl5 : Below w.heap.size w w5 := HB.out.trans (HG5.out.2.2.mono (by omega))
          have hb1' := HG5.out.2.1 (w.heap.size + 1) _ (by omega) HB1.out
          refine ⟨k + 1, _, by omega, rfl, by go_num, hbl5.trans (below_of_grown hset hbl5.size (fun g hg => by injection hg with hg; omega)), ?_, set_block HS0.out _ _ rfl, ?_, ?_⟩
          · exact Nat.le_trans hsz (Nat.le_trans HG5.out.2.2.size hset.size)
          · rw [hset.block (w.heap.size + 1) (by have := HG5.out.2.2.size; omega) (fun e => by injection e with e; omega)]; exact hb1'
          · rw [htk]
            exact HO5.out.kept hset (fun r e => by injection e with e; omega)
    · obtain ⟨oA, oc, rfl⟩ := hown.form
      have hke : l.take k = l := List.take_of_length_le (by have := HN.out; omega)
      rw [hke] at hown hb2
      have k0 : wr.cell? ⟨w.heap.size + 2, 0, none⟩ = some (.int .i64 bd) := by simp [World.cell?, hb2]
      have k1 : wr.cell? ⟨w.heap.size + 2, 1, none⟩ = some (.slice oA l.length oc) := by simp [World.cell?, hb2]
      have r0 : wr.cell? ⟨w.heap.size + 1, 0, none⟩ = some (.int .i64 0) := by simp [World.cell?, hb1]
      have r1 : wr.cell? ⟨w.heap.size + 1, 1, none⟩ = some (.slice none 0 0) := by simp [World.cell?, hb1]
      have kf : ∀ j, wr.frozen? ⟨w.heap.size + 1, j, none⟩ = false := fun j => by simp [World.frozen?, hb1]
      have HG := Lib.hid hg
      have HB := Lib.hid hB
      have HB2 := Lib.hid hb2
      have HB1 := Lib.hid hb1
      have HOWN := Lib.hid hown
      have HKE := Lib.hid hke
      clear hg hB hb2 hb1 hown hke
      go_wp2_with fail
      have t1 := set_block (i := 0) HB1.out (.int .i64 bd) #[.int .i64 bd, .slice none 0 0] rfl
      have t2 := set_block (i := 1) t1 (.slice oA l.length oc) #[.int .i64 bd, .slice oA l.length oc] rfl
      have gg := World.grownBy.trans (set_grown (i := 0) HB1.out (.int .i64 bd)) (set_grown (i := 1) t1 (.slice oA l.length oc))
      generalize (wr.setCell ⟨w.heap.size + 1, 0, none⟩ (.int .i64 bd)).setCell ⟨w.heap.size + 1, 1, none⟩ (.slice oA l.length oc) = wf at t2 gg ⊢
      have e0 : wf.cell? ⟨w.heap.size + 1, 0, none⟩ = some (.int .i64 bd) := by simp [World.cell?, t2]
      have e1 : wf.cell? ⟨w.heap.size + 1, 1, none⟩ = some (.slice oA l.length oc) := by simp [World.cell?, t2]
      exact bodyPost_ret (v := .agg #[.int .i64 bd, .slice oA l.length oc]) (by simp [results, Tryd.results43, go_sem, e0, e1]) rfl ⟨_, rfl, (HOWN.out.kept gg (fun r e => by injection e with e; omega)).mono (by omega), HB.out.trans (below_of_grown gg HB.out.size (fun g hg => by injection hg with hg; omega))⟩
end Go.Proofs.YticdfbhbbapbdaaDoor
