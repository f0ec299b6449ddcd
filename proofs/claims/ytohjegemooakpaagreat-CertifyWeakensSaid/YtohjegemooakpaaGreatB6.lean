/- stratagemlaw32.CertifyWeakens returns true for every input. No condition beyond the row's own. -/
import Derived.Test.YtohjegemooakpaaGreatB5
import Derived.Laws.CopyRow
import Derived.Test.YtohjegemooakpaaGreatB3
import Derived.Test.YtohjegemooakpaaGreatB2
import Derived.Test.YtohjegemooakpaaGreatB4
import Derived.KernelRfl
import Derived.Test.YtohjegemooakpaaGreatB1
import Derived.Deep.Slices
import Derived.Deep.Fields
import Derived.ChangeSame
import Derived.SizedLaws
import Derived.Lib.SmallJoins
import Derived.Below
import Derived.OpenShut
import Derived.Carry
import Derived.Test.YtohjegemooakpaaGreatRows
import Derived.Deep.DeepHandedRow
import Derived.Lib.LaidTab
/- Operations of slices.Delete in the machine: a slice with room, append of a part of a row to a front part of the same row, clear. -/
namespace Go.Proofs.YtohjegemooakpaaGreat.Am
open Go.RowKit
theorem Flat.over {w : World} {vs : Shp} {m : MM} {sz p : Nat} {els new : List (List AV)} {arr : Array Value} {news : List Value} (h : Flat w vs m sz els arr) (hn : Flat w vs m sz new news.toArray) (hl : news.length = new.length * sz) (hp : p + new.length ≤ els.length) :
    Flat w vs m sz (els.take p ++ new ++ els.drop (p + new.length)) (arr.toList.take (p * sz) ++ news ++ arr.toList.drop (p * sz + news.length)).toArray ∧ p * sz + news.length ≤ arr.size ∧ (arr.toList.take (p * sz) ++ news ++ arr.toList.drop (p * sz + news.length)).toArray.size = arr.size := by
  have hsz : (p + new.length) * sz ≤ arr.size := Nat.le_trans (Nat.mul_le_mul_right _ hp) h.1
  rw [Nat.add_mul, ← hl] at hsz
  have hs : (arr.toList.take (p * sz) ++ news ++ arr.toList.drop (p * sz + news.length)).toArray.size = arr.size := by simp; omega
  have htl : (els.take p).length = p := by simp; omega
  have hlen : (els.take p ++ new ++ els.drop (p + new.length)).length = els.length := by simp; omega
  refine ⟨⟨by rw [hlen, hs]; exact h.1, fun k e he => ?_⟩, hsz, hs⟩
  have ht : (arr.toList.take (p * sz)).length = p * sz := by simp; omega
  have hget : ∀ q, (arr.toList.take (p * sz) ++ news ++ arr.toList.drop (p * sz + news.length)).toArray[q]? = if q < p * sz then arr[q]? else if q < p * sz + news.length then news[q - p * sz]? else arr[q]? := by
    intro q
    rw [List.getElem?_toArray]
    by_cases h1 : q < p * sz
    · rw [if_pos h1, List.append_assoc, List.getElem?_append_left (by omega), List.getElem?_take, if_pos h1]; simp
    · rw [if_neg h1]
      by_cases h2 : q < p * sz + news.length
      · rw [if_pos h2, List.append_assoc, List.getElem?_append_right (by omega), ht, List.getElem?_append_left (by omega)]
      · rw [if_neg h2, List.getElem?_append_right (by simp; omega), List.getElem?_drop]
        have : (arr.toList.take (p * sz) ++ news).length = p * sz + news.length := by rw [List.length_append, ht]
        rw [this, show p * sz + news.length + (q - (p * sz + news.length)) = q from by omega]
        simp
  by_cases c1 : k < p
  · rw [List.append_assoc, List.getElem?_append_left (by omega), List.getElem?_take, if_pos c1] at he
    refine ⟨(h.2 k e he).1, fun j x hx => ?_⟩
    have hj : j < sz := by rw [← (h.2 k e he).1]; exact (List.getElem?_eq_some_iff.1 hx).1
    rw [hget, if_pos (mul_lt_of c1 hj)]
    exact (h.2 k e he).2 j x hx
  · by_cases c2 : k < p + new.length
    · rw [List.append_assoc, List.getElem?_append_right (by omega), htl, List.getElem?_append_left (by omega)] at he
      refine ⟨(hn.2 _ e he).1, fun j x hx => ?_⟩
      have hj : j < sz := by rw [← (hn.2 _ e he).1]; exact (List.getElem?_eq_some_iff.1 hx).1
      obtain ⟨q, rfl⟩ : ∃ q, k = p + q := ⟨k - p, by omega⟩
      have hq : q < new.length := by omega
      have h3 := mul_lt_of hq hj
      rw [hget, if_neg (by rw [Nat.add_mul]; omega), if_pos (by rw [Nat.add_mul, hl]; omega)]
      obtain ⟨u, u1, u2, u3⟩ := (hn.2 _ e he).2 j x hx
      refine ⟨u, ?_, u2, u3⟩
      rw [← u1, List.getElem?_toArray]
      congr 1
      rw [Nat.add_mul, show p + q - p = q from by omega]
      omega
    · rw [List.getElem?_append_right (by simp; omega), List.getElem?_drop] at he
      have : (els.take p ++ new).length = p + new.length := by rw [List.length_append, htl]
      rw [this, show p + new.length + (k - (p + new.length)) = k from by omega] at he
      refine ⟨(h.2 k e he).1, fun j x hx => ?_⟩
      have h3 := Nat.mul_le_mul_right sz (Nat.le_of_not_lt c2)
      rw [Nat.add_mul, ← hl] at h3
      rw [hget, if_neg (by omega), if_neg (by omega)]
      exact (h.2 k e he).2 j x hx
section
variable {C : Cx} {n : Nat} {o : Oper} {τ : Nat → AV} {η : Nat → Ent} {t e : TypeId} {ti te : TI}
/-- s[l:r:q], whose value nobody uses -/
theorem lf_slice3 {x lo hi mx : Operand} {k1 k2 k3 : IntKind} {i ver len l r q : Nat} {z1 z2 z3 : Int} {B : Blk} (ho : o.op = .slice t x (some lo) (some hi) (some mx)) (hd : InB n o.dst) (hx : evA τ x = .own i ver 0 len) (hi' : η i = ⟨ver, some B⟩) (ht : TyOk C.P t ti) (hk : ti.kind = .slice e) (hte : TyOk C.P e te)
    (hlo : evA τ lo = .c (.int k1 z1)) (hhi : evA τ hi = .c (.int k2 z2)) (hmx : evA τ mx = .c (.int k3 z3)) (e1 : z1 = (l : Int)) (e2 : z2 = (r : Int)) (e3 : z3 = (q : Int)) (h1 : l ≤ r) (h2 : r ≤ q) (h3 : q ≤ len) : LF C n o τ η ⟨.dead, [], [i]⟩ := by
  subst e1 e2 e3
  refine lf_pure hd (fun τ' η' g1 g2 => ?_)
  intro w0 X m a w h
  have hv := h.ev x
  have v1 := h.ev lo
  have v2 := h.ev hi
  have v3 := h.ev mx
  rw [g1 x (by simp [ho, Op.operands]), hx] at hv
  rw [g1 lo (by simp [ho, Op.operands]), hlo] at v1
  rw [g1 hi (by simp [ho, Op.operands]), hhi] at v2
  rw [g1 mx (by simp [ho, Op.operands]), hmx] at v3
  have hi2 : η' i = ⟨ver, some B⟩ := (g2 i (List.mem_singleton.2 rfl)).trans hi'
  have hA : ∃ A cap, a.eval x = .slice A len cap ∧ len ≤ cap := by
    rcases rv_own hv hi2 with ⟨e1, e2, _, hu⟩ | ⟨k', A, e1, e2, hu⟩ | ⟨b, cap, ty, nn, _, e2, _, _, _, hu⟩
    · exact ⟨none, 0, by rw [hu, e2], by omega⟩
    · exact ⟨A, 0, by rw [hu, e2], by omega⟩
    · exact ⟨_, cap, hu, e2⟩
  obtain ⟨A, cap, hu, hcap⟩ := hA
  refine ⟨.slice (if q = l then A else A.map (·.add (l * te.sz))) (r - l) (q - l), ?_, .dead _⟩
  simp [execOp, ho, hu, sliceAt_slice (ht.sliceU hk), Instr.slice, run_underlying (ht.sliceU hk), Instr.sliceBounds, run_bound (rv_c v3) (Nat.le_trans h3 hcap), run_bound (rv_c v2) h2, run_bound (rv_c v1) h1, hte.size]
/-- a slice of a row that goes beyond its length -/
theorem lf_sliceX {x lo hi : Operand} {k1 k2 : IntKind} {i ver len l r : Nat} {z1 z2 : Int} {B : Blk} (ho : o.op = .slice t x (some lo) (some hi) none) (hd : InB n o.dst) (hx : evA τ x = .own i ver 0 len) (hi' : η i = ⟨ver, some B⟩) (ht : TyOk C.P t ti) (hk : ti.kind = .slice e) (hte : TyOk C.P e te) (hsz : te.sz = B.sz) (hpos : 0 < B.sz)
    (hlo : evA τ lo = .c (.int k1 z1)) (hhi : evA τ hi = .c (.int k2 z2)) (e1 : z1 = (l : Int)) (e2 : z2 = (r : Int)) (h1 : l < r) (h2 : r ≤ B.els.length) : LF C n o τ η ⟨.own i ver l (r - l), [], [i]⟩ := by
  subst e1 e2
  refine lf_pure hd (fun τ' η' g1 g2 => ?_)
  intro w0 X m a w h
  have hv := h.ev x
  rw [g1 x (by simp [ho, Op.operands]), hx] at hv
  have hi2 : η' i = ⟨ver, some B⟩ := (g2 i (List.mem_singleton.2 rfl)).trans hi'
  have hs : (shp η') i = (ver, some B.sz) := by simp [shp, hi2]
  have hlo' : Bnd τ' 0 (some lo) l := ⟨k1, by rw [g1 lo (by simp [ho, Op.operands]), hlo]⟩
  have hhi' : Bnd τ' len (some hi) r := ⟨k2, by rw [g1 hi (by simp [ho, Op.operands]), hhi]⟩
  have hok := h.mem.ok i B (by rw [hi2])
  rcases rv_own hv hi2 with ⟨_, _, e2, hu⟩ | ⟨k', A, e1, e2, hu⟩ | ⟨b, cap, ty, nn, e1, e2, e3, e4, e5, hu⟩
  · rw [e2] at hok
    have : B.els = [] := hok.1
    rw [this] at h2
    simp at h2
    omega
  · omega
  · rw [e1] at hok
    obtain ⟨arr, a1, a2, a3⟩ := hok.unmap e4
    have hsize : arr.size = nn := by
      simp only [World.shape?, a1] at e4
      injection e4 with e4
      injection e4
    have hcap : r ≤ cap := by
      have h3 : B.els.length * B.sz ≤ cap * B.sz := by rw [Nat.zero_add] at e5; omega
      exact Nat.le_trans h2 (Nat.le_of_mul_le_mul_right h3 hpos)
    have hb := run_bounds (n := n) (isS := true) h hlo' hhi' (Nat.le_of_lt h1) hcap
    simp only [Option.map_some] at hb
    have hrun : (execOp a.eval o).run C.P w = .ok (.value (.slice (if cap = l then some ⟨b, 0 * B.sz, none⟩ else (some (⟨b, 0 * B.sz, none⟩ : Addr)).map (·.add (l * B.sz))) (r - l) (cap - l))) w := by
      simp [execOp, ho, hu, sliceAt_slice (ht.sliceU hk), Instr.slice, run_underlying (ht.sliceU hk), hb, hte.size, hsz]
    refine ⟨_, hrun, ?_⟩
    rw [if_neg (by omega)]
    have := RV.own (w := w) (vs := shp η') (m := m) (k := l) (len := r - l) (cap := cap - l) hs e1 (by omega) (by omega) e4 (by rw [← e5, show l + (cap - l) = 0 + cap from by omega])
    simpa [add_plain, Nat.add_mul] using this
/-- append of the rest of a row to a front part of it -/
theorem lf_appS {x y : Operand} {i ver p q r : Nat} {B : Blk} (ho : o.op = .call { callee := .builtin .append, args := #[x, y], argTypes := #[t, t] }) (hd : InB n o.dst) (hx : evA τ x = .own i ver 0 p) (hy : evA τ y = .own i ver q r) (hi : η i = ⟨ver, some B⟩) (ht : TyOk C.P t ti) (hk : ti.kind = .slice e) (hte : TyOk C.P e te)
    (hsz : te.sz = B.sz) (hty : B.ty = e) (hpos : 0 < B.sz) (hpq : p < q) (hqr : q + r = B.els.length) : LF C n o τ η ⟨.own i ver 0 (p + r), [(i, ⟨ver, some ⟨B.ty, B.sz, B.box, B.els.take p ++ (B.els.drop q).take r ++ B.els.drop (p + r)⟩⟩)], []⟩ := by
  intro τ' η' g1 g2
  intro w0 X m a w h
  have hi2 : η' i = ⟨ver, some B⟩ := (g2 i (.inr (by simp [Foot.ids]))).trans hi
  have hv := h.ev x
  rw [g1 x (by simp [ho, Op.operands, Call.operands]), hx] at hv
  have hsrc : Src η' B.sz ((B.els.drop q).take r) (evA τ' y) := by
    rw [g1 y (by simp [ho, Op.operands, Call.operands]), hy]
    exact ⟨B, hi2, rfl, by omega, rfl⟩
  obtain ⟨A, c, news, hyv, hr, h1, hf⟩ := src_ok h hsrc
  have hok := h.mem.ok i B (by rw [hi2])
  have hs : (shp η') i = (ver, some B.sz) := by simp [shp, hi2]
  have hnl : ((B.els.drop q).take r).length = r := by simp; omega
  rw [hnl] at hyv hr
  obtain ⟨i0, hi0, hz0, hz1, hz2⟩ := info_parts hte.info
  rcases rv_own hv hi2 with ⟨_, _, e2, hu⟩ | ⟨k', A', e1, e2, hu⟩ | ⟨b, cap, ty, nn, e1, e2, e3, e4, e5, hu⟩
  · rw [e2] at hok
    have : B.els = [] := hok.1
    rw [this] at hqr
    simp at hqr
    omega
  · omega
  · rw [e1] at hok
    obtain ⟨arr, a1, a2, a3⟩ := hok.unmap e4
    have hM : isM B.box B.ty = false := by
      cases hM : isM B.box B.ty with
      | false => rfl
      | true =>
        obtain ⟨arr', hc, _⟩ := hok
        obtain ⟨es, ck, q1, _⟩ := hc.2 hM
        rw [a1] at q1
        cases q1
    have hsize : arr.size = nn := by
      simp only [World.shape?, a1] at e4
      injection e4 with e4
      injection e4
    obtain ⟨f1, f2, f3⟩ := Flat.over (p := p) ⟨a2, a3⟩ hf (by rw [hnl]; exact hr.1) (by rw [hnl]; omega)
    rw [hnl] at f1
    have hcs : arr.size = cap * B.sz := by rw [Nat.zero_add] at e5; omega
    have hcap : p + r ≤ cap := by
      have h3 : B.els.length * B.sz ≤ cap * B.sz := by omega
      have := Nat.le_of_mul_le_mul_right h3 hpos
      omega
    have hrun : (execOp a.eval o).run C.P w = .ok (.value (.slice (some ⟨b, 0 * B.sz, none⟩) (p + r) cap)) (w.setRow b (arr.toList.take (p * B.sz) ++ news ++ arr.toList.drop (p * B.sz + news.length)).toArray) := by
      rcases A with _ | ad
      · have hr0 : r = 0 := by
          rcases Nat.eq_zero_or_pos r with h0 | h0
          · exact h0
          · obtain ⟨ad, h, _⟩ := hr.2 h0
            cases h
        subst hr0
        have hn : news = [] := List.eq_nil_of_length_eq_zero (by simpa using hr.1)
        subst hn
        have : (arr.toList.take (p * B.sz) ++ ([] : List Value) ++ arr.toList.drop (p * B.sz + ([] : List Value).length)).toArray = arr := by simp
        rw [this, setRow_self w b arr _ _ a1]
        simp [execOp, ho, resolve, invoke, builtin, hu, hyv, Builtin.append_, run_underlying (ht.sliceU hk), sizeOf, typeInfo, hi0, Builtin.lenOf, Builtin.firstCells, e2, storeCells]
      · have hcells : ∀ j u, news[j]? = some u → w.cell? (ad.add j) = some u := by
          intro j u hu
          rcases Nat.eq_zero_or_pos r with h0 | h0
          · have hn : news = [] := List.eq_nil_of_length_eq_zero (by rw [hr.1, h0]; simp)
            subst hn
            simp at hu
          · obtain ⟨ad', h, _, hc⟩ := hr.2 h0
            injection h with h
            subst h
            exact hc j u hu
        have hi1 : i0.size = B.sz := by rw [hz1, hsz]
        have hroom := run_append_room (P := C.P) w t o.type e i0 (ht.sliceU hk) hi0 b p cap arr (hty ▸ a1) ad r c news (by rw [hi1]; exact hr.1) hcells h1 hcap (by rw [hi1]; exact f2)
        rw [hi1] at hroom
        simp only [execOp, ho, resolve, invoke, builtin, Sem.run_bind, Sem.run_pure, Result.andThen_ok, List.map_toArray, List.map_cons, List.map_nil, hu, hyv, Nat.zero_mul, hroom]
    have hw := h.write hM hi2 e1 a1 f3 f1
    unfold Oper.wp
    rw [hrun]
    refine ⟨_, hw.put hd ?_⟩
    have hsh : (w.setRow b (arr.toList.take (p * B.sz) ++ news ++ arr.toList.drop (p * B.sz + news.length)).toArray).shape? b = some (ty, nn) := by
      rw [← e4]
      unfold World.shape?
      rw [setRow_heap w b arr _ B.ty (0, 0) a1, a1]
      simp only [f3]
    exact RV.own (sz := B.sz) (by simp [shp, updE]) e1 hcap e3 hsh e5
theorem zero_flat {w : World} {vs : Shp} {m : MM} {z : Value} {sz r : Nat} (hz : z.cells.size = sz) (hone : ∀ u ∈ z.cells.toList, u.oneCell' = true) : Flat w vs m sz (List.replicate r (z.cells.toList.map .c)) (Builtin.zeroCells z.cells r).toList.toArray := by
  have hs : (Builtin.zeroCells z.cells r).size = r * sz := by rw [size_zeroCells, hz]
  rw [Array.toArray_toList]
  refine ⟨by rw [List.length_replicate, hs]; exact Nat.le_refl _, fun k e' he => ?_⟩
  have hk : k < r := by simpa using (List.getElem?_eq_some_iff.1 he).1
  have he' : e' = z.cells.toList.map .c := by
    rw [List.getElem?_replicate] at he
    simpa [hk] using he.symm
  subst he'
  refine ⟨by simp [hz], fun j x hx => ?_⟩
  rw [List.getElem?_map] at hx
  obtain ⟨u, hu, rfl⟩ := Option.map_eq_some_iff.1 hx
  have hj : j < sz := by rw [← hz]; simpa using (List.getElem?_eq_some_iff.1 hu).1
  have hq := mul_lt_of hk hj
  refine ⟨u, ?_, hone u (List.mem_of_getElem? hu), .c u⟩
  have hm : (k * sz + j) % sz = j := by rw [Nat.mul_comm, Nat.mul_add_mod, Nat.mod_eq_of_lt hj]
  have hlt : k * sz + j < (Builtin.zeroCells z.cells r).size := by rw [hs]; exact hq
  rw [Array.getElem?_eq_getElem hlt]
  simp only [Builtin.zeroCells, Array.getElem_map, Array.getElem_range, hz, hm]
  rw [Array.getElem?_toList] at hu
  rw [getElem!_def, hu]
theorem lf_clear {x : Operand} {i ver p r : Nat} {B : Blk} (ho : o.op = .call { callee := .builtin .clear, args := #[x], argTypes := #[t] }) (hd : o.dst = none) (hx : evA τ x = .own i ver p r) (hi : η i = ⟨ver, some B⟩) (ht : TyOk C.P t ti) (hk : ti.kind = .slice e) (hte : TyOk C.P e te)
    (hsz : te.sz = B.sz) (hpos : 0 < B.sz) (hone : ∀ u ∈ te.zero.cells.toList, u.oneCell' = true) (hr0 : 0 < r) (hqr : p + r ≤ B.els.length) : LF C n o τ η ⟨.dead, [(i, ⟨ver, some ⟨B.ty, B.sz, B.box, B.els.take p ++ List.replicate r (te.zero.cells.toList.map .c) ++ B.els.drop (p + r)⟩⟩)], []⟩ := by
  intro τ' η' g1 g2
  intro w0 X m a w h
  have hi2 : η' i = ⟨ver, some B⟩ := (g2 i (.inr (by simp [Foot.ids]))).trans hi
  have hv := h.ev x
  rw [g1 x (by simp [ho, Op.operands, Call.operands]), hx] at hv
  have hok := h.mem.ok i B (by rw [hi2])
  have hzc : te.zero.cells.size = B.sz := by rw [hte.cells, hsz]
  rcases rv_own hv hi2 with ⟨_, e0, e2, hu⟩ | ⟨k', A', e1, e2, hu⟩ | ⟨b, cap, ty, nn, e1, e2, e3, e4, e5, hu⟩
  · omega
  · omega
  · rw [e1] at hok
    obtain ⟨arr, a1, a2, a3⟩ := hok.unmap e4
    have hM : isM B.box B.ty = false := by
      cases hM : isM B.box B.ty with
      | false => rfl
      | true =>
        obtain ⟨arr', hc, _⟩ := hok
        obtain ⟨es, ck, q1, _⟩ := hc.2 hM
        rw [a1] at q1
        cases q1
    have hzl : (Builtin.zeroCells te.zero.cells r).toList.length = r * B.sz := by rw [Array.length_toList, size_zeroCells, hzc]
    obtain ⟨f1, f2, f3⟩ := Flat.over (p := p) (new := List.replicate r (te.zero.cells.toList.map .c)) (news := (Builtin.zeroCells te.zero.cells r).toList) ⟨a2, a3⟩ (zero_flat (w := w) (vs := shp η') (m := m) hzc hone) (by rw [hzl, List.length_replicate]) (by rw [List.length_replicate]; exact hqr)
    rw [List.length_replicate] at f1
    have hall : ∀ u ∈ (Builtin.zeroCells te.zero.cells r).toList, u.oneCell' = true := by
      intro u hu
      simp only [Builtin.zeroCells, Array.toList_map, List.mem_map] at hu
      obtain ⟨q, _, rfl⟩ := hu
      have hlt : q % te.zero.cells.size < te.zero.cells.size := Nat.mod_lt _ (by rw [hzc]; exact hpos)
      refine hone _ ?_
      rw [getElem!_pos te.zero.cells _ hlt]
      simp
    have hst := run_storeCells_at C.P b (p * B.sz) B.ty (Builtin.zeroCells te.zero.cells r).toList 0 arr w a1 (by simpa using f2) hall
    simp only [Nat.add_zero] at hst
    have hrun : (execOp a.eval o).run C.P w = .ok (.value (.tuple #[])) (w.setRow b (arr.toList.take (p * B.sz) ++ (Builtin.zeroCells te.zero.cells r).toList ++ arr.toList.drop (p * B.sz + (Builtin.zeroCells te.zero.cells r).toList.length)).toArray) := by
      obtain ⟨r', rfl⟩ : ∃ r', r = r' + 1 := ⟨r - 1, by omega⟩
      simp only [execOp, ho, resolve, invoke, builtin, Sem.run_bind, Sem.run_pure, Result.andThen_ok, List.map_toArray, List.map_cons, List.map_nil, hu, Builtin.clear_, List.getElem?_toArray, List.getElem?_cons_zero, run_underlying (ht.sliceU hk), hte.zeroV, hst]
    have hw := h.write hM hi2 e1 a1 f3 f1
    unfold Oper.wp
    rw [hrun]
    refine ⟨m, ?_⟩
    rw [hd]
    exact hw
end
end Go.Proofs.YtohjegemooakpaaGreat.Am
/- slices.Delete of one element over facts and over nogoods. -/
namespace Go.Proofs.YtohjegemooakpaaGreat.Am
open Go.RowKit
theorem dr_del {b : Bool} {p K : Prop} (k : K) (h : b = true → p := by intro h; first | (cases h; done) | exact ⟨by kernel_rfl, by kernel_rfl⟩) : (b = true → p) ∧ K := ⟨h, k⟩
theorem er_map {α β : Type} {f : α → β} {l : List α} {i : Nat} : (l.eraseIdx i).map f = (l.map f).eraseIdx i := by rw [List.eraseIdx_eq_take_drop_succ, List.eraseIdx_eq_take_drop_succ, List.map_append, List.map_take, List.map_drop]
theorem del_take {α : Type} {l : List α} {i n p q r s k m : Nat} {z : α} (hn : l.length = n) (h : i < n) (hp : p = i) (hq : q = i + 1) (hr : r = n - (i + 1)) (hs : s = n - 1) (hk : k = 1) (hm : m = n - 1) (t u : Nat) (_ : t = n - 1) : l.eraseIdx i = ((l.take p ++ (l.drop q).take r ++ l.drop t).take s ++ List.replicate k z ++ (l.take p ++ (l.drop q).take r ++ l.drop t).drop u).take m := by
  subst hp hq hr hs hk hm
  have h1 : (l.take p).length = p := by simp; omega
  have h2 : (l.drop (p + 1)).take (n - (p + 1)) = l.drop (p + 1) := List.take_of_length_le (by simp; omega)
  have h3 : (l.take p ++ l.drop (p + 1)).length = n - 1 := by rw [List.length_append, h1, List.length_drop]; omega
  rw [h2, List.append_assoc (List.take (n - 1) _), List.take_append_of_le_length (by simp; omega), List.take_take, Nat.min_self, List.take_append_of_le_length (by omega), List.take_of_length_le (by omega), List.eraseIdx_eq_take_drop_succ]
set_option maxHeartbeats 4000000 in
set_option maxRecDepth 100000 in
theorem A_delF (l : List Fact) (i : Nat) (zi zj : Int) (hi : zi = (i : Int)) (hj : zj = ((i + 1 : Nat) : Int)) (h : i < l.length) (hm : l.length ≤ 140737488355328) : ACallG cx 60 [.own 0 0 0 l.length, .c (.int .i64 zi), .c (.int .i64 zj)] [(0, ⟨68, 2, false, l.map cF⟩)] [] (.own 0 0 0 (l.eraseIdx i).length) [(0, ⟨68, 2, false, (l.eraseIdx i).map cF⟩)] := by
  subst hi hj
  refine acallg_of 36 Tryz.func60 rfl (by decide) rfl (Nat.le_of_ble_eq_true rfl) rfl rfl ?_
  intro _
  refine aSq ?_
  refine aRg ?_
  intro _
  refine dr_del ?_
  refine aSq ?_
  refine awp_regionO [5] ?_
  intro _
  intro _
  refine ⟨rfl, _, lf_slice3 (l := i) (r := i + 1) (q := l.length) rfl (Nat.le_of_ble_eq_true rfl) rfl rfl (tyTab_ok 23 _ rfl) rfl (tyTab_ok 68 _ rfl) rfl rfl rfl rfl rfl rfl (by omega) (by omega) (by omega), ?_⟩
  intro _
  refine dr_del ?_
  refine aSq ?_
  refine aSq ?_
  refine aRg ?_
  intro _
  refine dr_del ?_
  refine aCd ?_
  intro _
  refine And.intro (fun hc => ?_) (fun _ => ?_)
  · exfalso
    simp at hc
    omega
  refine aSk ?_
  refine aSq ?_
  refine aRg ?_
  intro _
  refine dr_del ?_
  refine aSq ?_
  refine awp_regionO [6] ?_
  intro _
  refine ⟨by omega, by omega, by omega, by omega, by omega, by omega, ?_⟩
  intro _
  refine ⟨rfl, _, lf_appS rfl (Nat.le_of_ble_eq_true rfl) rfl rfl rfl (tyTab_ok 23 _ rfl) rfl (tyTab_ok 68 _ rfl) rfl rfl (show 0 < 2 by decide) (by omega) (by simp only [List.length_map]; omega), ?_⟩
  intro _
  refine dr_del ?_
  refine aSq ?_
  refine awp_regionO [4, 0] ?_
  intro _
  intro _
  refine ⟨rfl, _, lf_sliceX (l := i + (l.length - (i + 1))) (r := l.length) rfl (Nat.le_of_ble_eq_true rfl) rfl rfl (tyTab_ok 23 _ rfl) rfl (tyTab_ok 68 _ rfl) rfl (show 0 < 2 by decide) rfl rfl (by omega) (by omega) (by omega) (by simp; omega), ?_⟩
  intro _
  intro _
  refine ⟨rfl, _, lf_clear rfl rfl rfl rfl (tyTab_ok 23 _ rfl) rfl (tyTab_ok 68 _ rfl) rfl (show 0 < 2 by decide) (by decide) (by omega) (by simp; omega), ?_⟩
  intro _
  refine dr_del ?_
  refine aSq ?_
  refine aRg ?_
  intro _
  refine dr_del ?_
  refine aRt ?_
  intro _
  have hl : (l.eraseIdx i).length = l.length - 1 := List.length_eraseIdx_of_lt h
  refine Exists.intro [(0, 0)] (And.intro rfl (And.intro (GWL.cons (gw_ren rfl rfl rfl rfl rfl ?_) GWL.nil) (And.intro (gb_take (m := l.length - 1) rfl ⟨rfl, rfl, rfl⟩ ?_ FrI.h) True.intro)))
  · show _ = (l.eraseIdx i).length
    omega
  · show (l.eraseIdx i).map cF = _
    rw [er_map]
    exact del_take (List.length_map _) h (by omega) (by omega) (by omega) (by omega) (by omega) rfl _ _ (by omega)
set_option maxHeartbeats 4000000 in
set_option maxRecDepth 100000 in
theorem A_delN (l : List Nogood) (i : Nat) (zi zj : Int) (hi : zi = (i : Int)) (hj : zj = ((i + 1 : Nat) : Int)) (h : i < l.length) (hm : l.length ≤ 140737488355328) : ACallG cx 61 [.own 0 0 0 l.length, .c (.int .i64 zi), .c (.int .i64 zj)] [(0, ⟨40, 2, false, l.map cN⟩)] [] (.own 0 0 0 (l.eraseIdx i).length) [(0, ⟨40, 2, false, (l.eraseIdx i).map cN⟩)] := by
  subst hi hj
  refine acallg_of 36 Tryz.func61 rfl (by decide) rfl (Nat.le_of_ble_eq_true rfl) rfl rfl ?_
  intro _
  refine aSq ?_
  refine aRg ?_
  intro _
  refine dr_del ?_
  refine aSq ?_
  refine awp_regionO [5] ?_
  intro _
  intro _
  refine ⟨rfl, _, lf_slice3 (l := i) (r := i + 1) (q := l.length) rfl (Nat.le_of_ble_eq_true rfl) rfl rfl (tyTab_ok 29 _ rfl) rfl (tyTab_ok 40 _ rfl) rfl rfl rfl rfl rfl rfl (by omega) (by omega) (by omega), ?_⟩
  intro _
  refine dr_del ?_
  refine aSq ?_
  refine aSq ?_
  refine aRg ?_
  intro _
  refine dr_del ?_
  refine aCd ?_
  intro _
  refine And.intro (fun hc => ?_) (fun _ => ?_)
  · exfalso
    simp at hc
    omega
  refine aSk ?_
  refine aSq ?_
  refine aRg ?_
  intro _
  refine dr_del ?_
  refine aSq ?_
  refine awp_regionO [6] ?_
  intro _
  refine ⟨by omega, by omega, by omega, by omega, by omega, by omega, ?_⟩
  intro _
  refine ⟨rfl, _, lf_appS rfl (Nat.le_of_ble_eq_true rfl) rfl rfl rfl (tyTab_ok 29 _ rfl) rfl (tyTab_ok 40 _ rfl) rfl rfl (show 0 < 2 by decide) (by omega) (by simp only [List.length_map]; omega), ?_⟩
  intro _
  refine dr_del ?_
  refine aSq ?_
  refine awp_regionO [4, 0] ?_
  intro _
  intro _
  refine ⟨rfl, _, lf_sliceX (l := i + (l.length - (i + 1))) (r := l.length) rfl (Nat.le_of_ble_eq_true rfl) rfl rfl (tyTab_ok 29 _ rfl) rfl (tyTab_ok 40 _ rfl) rfl (show 0 < 2 by decide) rfl rfl (by omega) (by omega) (by omega) (by simp; omega), ?_⟩
  intro _
  intro _
  refine ⟨rfl, _, lf_clear rfl rfl rfl rfl (tyTab_ok 29 _ rfl) rfl (tyTab_ok 40 _ rfl) rfl (show 0 < 2 by decide) (by decide) (by omega) (by simp; omega), ?_⟩
  intro _
  refine dr_del ?_
  refine aSq ?_
  refine aRg ?_
  intro _
  refine dr_del ?_
  refine aRt ?_
  intro _
  have hl : (l.eraseIdx i).length = l.length - 1 := List.length_eraseIdx_of_lt h
  refine Exists.intro [(0, 0)] (And.intro rfl (And.intro (GWL.cons (gw_ren rfl rfl rfl rfl rfl ?_) GWL.nil) (And.intro (gb_take (m := l.length - 1) rfl ⟨rfl, rfl, rfl⟩ ?_ FrI.h) True.intro)))
  · show _ = (l.eraseIdx i).length
    omega
  · show (l.eraseIdx i).map cN = _
    rw [er_map]
    exact del_take (List.length_map _) h (by omega) (by omega) (by omega) (by omega) (by omega) rfl _ _ (by omega)
def M_delF (l : List Fact) (i j : Int) : Option (List Fact) := grd (0 ≤ i) (grd (j = i + 1) (grd (i < (l.length : Int)) (grd (l.length ≤ 140737488355328) (some (l.eraseIdx i.toNat)))))
def M_delN (l : List Nogood) (i j : Int) : Option (List Nogood) := grd (0 ≤ i) (grd (j = i + 1) (grd (i < (l.length : Int)) (grd (l.length ≤ 140737488355328) (some (l.eraseIdx i.toNat)))))
theorem A_delN1 (l : List Nogood) (i j : Int) {r : List Nogood} (h : M_delN l i j = some r) : ACallG cx 61 [.own 0 0 0 l.length, .c (.int .i64 i), .c (.int .i64 j)] [(0, ⟨40, 2, false, l.map cN⟩)] [] (.own 0 0 0 r.length) [(0, ⟨40, 2, false, r.map cN⟩)] := by
  obtain ⟨h0, h⟩ := grd_ok h
  obtain ⟨h1, h⟩ := grd_ok h
  obtain ⟨h2, h⟩ := grd_ok h
  obtain ⟨h3, h⟩ := grd_ok h
  obtain rfl := Option.some.inj h
  exact A_delN l i.toNat i j (by omega) (by omega) (by omega) h3
theorem A_delF1 (l : List Fact) (i j : Int) {r : List Fact} (h : M_delF l i j = some r) : ACallG cx 60 [.own 0 0 0 l.length, .c (.int .i64 i), .c (.int .i64 j)] [(0, ⟨68, 2, false, l.map cF⟩)] [] (.own 0 0 0 r.length) [(0, ⟨68, 2, false, r.map cF⟩)] := by
  obtain ⟨h0, h⟩ := grd_ok h
  obtain ⟨h1, h⟩ := grd_ok h
  obtain ⟨h2, h⟩ := grd_ok h
  obtain ⟨h3, h⟩ := grd_ok h
  obtain rfl := Option.some.inj h
  exact A_delF l i.toNat i j (by omega) (by omega) (by omega) h3
theorem delF_len {l : List Fact} {i j : Int} {r : List Fact} (h : M_delF l i j = some r) : r.length ≤ 140737488355328 := by
  obtain ⟨h0, h⟩ := grd_ok h
  obtain ⟨h1, h⟩ := grd_ok h
  obtain ⟨h2, h⟩ := grd_ok h
  obtain ⟨h3, h⟩ := grd_ok h
  obtain rfl := Option.some.inj h
  exact Nat.le_trans (List.length_eraseIdx_le _ _) h3
theorem split_at {α : Type} {l : List α} {i : Nat} {x : α} (h : l[i]? = some x) : ∃ a b, l = a ++ x :: b ∧ a.length = i := by
  obtain ⟨hi, rfl⟩ := List.getElem?_eq_some_iff.1 h
  exact ⟨l.take i, l.drop (i + 1), by rw [List.getElem_cons_drop, List.take_append_drop], by simp; omega⟩
theorem foc_at {α : Type} {a b : List α} {x : α} {i : Nat} (h : a.length = i) : (a ++ x :: b)[i]? = some x := by subst h; simp
theorem foc_frz {η η' : Nat → Ent} {l w1 w2 : List Nogood} {y : Nogood} {x : List AV} {i i' q ver : Nat} {f : List Fact} {d : Int} (hsp : l = w1 ++ y :: w2) (hlen : w1.length = i) (hi : i' = i) (h3 : η q = ⟨ver, some ⟨68, 2, false, f.map cF⟩⟩) (h4 : (η' q).blk = none) (hm : f.length ≤ 140737488355328) :
    BWLL η η' ((w1.map cN ++ x :: w2.map cN).set i' [.own q ver 0 f.length, .c (.int .i64 d)]) ((l.set i (f, d)).map cN) := by
  have e1 : ∀ {α : Type} (a b : List α) (x y : α), (a ++ x :: b).set a.length y = a ++ y :: b := fun a b x y => by simp
  subst hi hsp hlen
  rw [e1, List.map_append, List.map_cons]
  have e2 := e1 (w1.map cN) (w2.map cN) x [.own q ver 0 f.length, .c (.int .i64 d)]
  rw [List.length_map] at e2
  rw [e2]
  exact bwll_append (bwll_fr FrI.h) (bwll_cons (BWL.cons (bw_own3 h3 h4 rfl FrI.h (bwll_same rfl FrI.h) (List.length_map _).symm hm) (BWL.cons bw_c BWL.nil)) (bwll_fr FrI.h))
end Go.Proofs.YtohjegemooakpaaGreat.Am
/- Models printed by my decompiler, and the proofs that the code computes them. -/
namespace Go.Proofs.YtohjegemooakpaaGreat.Am
open Go.RowKit
def M_certify_copied_L1 (a0 : GCertificate) : Nat → Int → (List Nogood) → Option (GCertificate)
  | 0, _, _ => none
  | k9 + 1, v7, v8 =>
    sel (decide (v7 < ((a0.Nogoods.map cN).length : Int)))
     (ix a0.Nogoods v7 (fun y10 =>
       ob1 (M_cloneF y10.1) (fun z11 =>
        grd ((v8.length + 1) * 32 ≤ 140737488355328) (grd (z11.length ≤ 140737488355328) (M_certify_copied_L1 a0 k9 (IntKind.i64.wrap (v7 + 1)) (v8 ++ [(z11, y10.2)]))))))
     (grd (v8.length ≤ 140737488355328) (some ({ Bound := a0.Bound, Nogoods := v8 : GCertificate })))
def M_certify_copied (a0 : GCertificate) : Option (GCertificate) :=
  M_certify_copied_L1 a0 ((((a0.Nogoods.map cN).length : Int)).toNat + 1) 0 []
set_option maxHeartbeats 16000000 in
set_option maxRecDepth 100000 in
theorem A_certify_copied (a0 : GCertificate) {r1 : GCertificate} (h : M_certify_copied a0 = some r1) : ACallG cx 57 [.agg [.c (.int .i64 a0.Bound), .sl 2 (a0.Nogoods.map cN)]] [] [] (.agg [.c (.int .i64 r1.Bound), .own 0 0 0 r1.Nogoods.length]) [(0, ⟨40, 2, false, r1.Nogoods.map cN⟩)] := by
  refine acallg_of 30 Tryz.func57 rfl (by decide) rfl (Nat.le_of_ble_eq_true rfl) rfl rfl ?_; intro _; unfold M_certify_copied at h; refine aSR ?_; intro _; refine dr ?_; refine aSR ?_; intro _; refine dr ?_; refine aSq ?_; refine aSR ?_; intro _; refine dr ?_; refine aBk ?_; refine awp_loop (α := Nat × Int × (List Nogood)) (fun x => mkG 29 30 [(2, .ptr 2 0 0 0), (3, .ptr 3 0 0 0), (10, .sl 2 (a0.Nogoods.map cN)), (11, .c (.int .i64 ((a0.Nogoods.map cN).length : Int))), (12, .c (.int .i64 x.2.1))] [(2, ⟨31, 2, true, [[.c (.int .i64 0), .c (.slice none 0 0)]]⟩), (3, ⟨31, 2, true, [[.c (.int .i64 a0.Bound), .own 25 0 0 x.2.2.length]]⟩), (25, ⟨40, 2, false, x.2.2.map cN⟩)]) (fun x => M_certify_copied_L1 a0 x.1 x.2.1 x.2.2 = some r1) (fun x => x.1) ((((a0.Nogoods.map cN).length : Int)).toNat + 1, 0, []) h ?_ ?_
  · exact ca_0
  · intro x1 h; intro _; obtain ⟨k9, m2, h⟩ := succ_of (f := fun n => M_certify_copied_L1 a0 n x1.2.1 x1.2.2) rfl h; replace h : M_certify_copied_L1 a0 (k9 + 1) x1.2.1 x1.2.2 = some r1 := h; rw [M_certify_copied_L1] at h; refine aSR ?_; intro _; refine dr ?_; refine aSq ?_; refine aCd ?_; intro _; refine spl h (fun c3 h => ?_) (fun c3 h => ?_)
    · refine aSk ?_; refine aSq ?_; refine aBk ?_; refine aSR ?_; intro _; obtain ⟨y10, w4, q5, h⟩ := ix_ok h; refine Exists.intro (cN y10) (And.intro (map_at' w4) ?_); intro _; refine pr ?_; refine dr ?_; refine aRg ?_; intro _; obtain ⟨z11, u6, h⟩ := ob1_ok h; refine clg [(0, 20)] [] [] [(20, ⟨2, some ⟨68, 2, false, z11.map cF⟩⟩)] (.own 20 2 0 z11.length) rfl rfl (A_cloneF y10.1 u6) ?_; intro _; obtain ⟨q7, h⟩ := grd_ok h; refine pl ?_; refine pl ?_; refine And.intro (by first | with_reducible assumption | (show (x1.2.2.length + 1) * 32 ≤ 140737488355328; with_reducible assumption) | omega | (simp; omega)) ?_; refine pe ?_; refine dr ?_; refine aRg ?_; intro _; refine dr ?_; obtain ⟨q8, h⟩ := grd_ok h; refine ⟨(k9, (IntKind.i64.wrap (x1.2.1 + 1)), (x1.2.2 ++ [(z11, y10.2)])), h, ltS m2, ?_⟩; exact ca_0
    · refine aEx ?_; refine aSR ?_; intro _; refine dr ?_; refine aRt ?_; obtain ⟨q9, h⟩ := grd_ok h; intro _; obtain rfl := inj1 h; all_goals (refine Exists.intro [(0, 25)] (And.intro rfl (And.intro ?_ ?_))); all_goals (exact zg_0)
end Go.Proofs.YtohjegemooakpaaGreat.Am
/- certify.copied, with the facts of one nogood handed back as a row of their own. -/
namespace Go.Proofs.YtohjegemooakpaaGreat.Am
open Go.RowKit
def WVLL (η η' : Nat → Ent) (els els' : List (List AV)) : Prop := els'.length = els.length ∧ ∀ (k : Nat) (e e' : List AV), els[k]? = some e → els'[k]? = some e' → e'.length = e.length ∧ ∀ (j : Nat) (x x' : AV), e[j]? = some x → e'[j]? = some x' → ∀ N, WV N η η' x x'
theorem wvll_row {η η' : Nat → Ent} {a b : List (List AV)} (h : WVLL η η' a b) : RowK η η' a b := .wv h.1 h.2
theorem wvll_bw {η η' : Nat → Ent} {a b : List (List AV)} (h : BWLL η η' a b) : WVLL η η' a b := ⟨h.1, fun k e e' h1 h2 => ⟨(h.2 k e e' h1 h2).1, fun j x x' h3 h4 _ => ((h.2 k e e' h1 h2).2 j x x' h3 h4).wv⟩⟩
theorem wvll_append {η η' : Nat → Ent} {a a' b b' : List (List AV)} (h1 : WVLL η η' a a') (h2 : WVLL η η' b b') : WVLL η η' (a ++ b) (a' ++ b') := by
  refine ⟨by simp [h1.1, h2.1], fun k e e' g1 g2 => ?_⟩
  by_cases hk : k < a.length
  · rw [List.getElem?_append_left hk] at g1
    rw [List.getElem?_append_left (by rw [h1.1]; exact hk)] at g2
    exact h1.2 k e e' g1 g2
  · rw [List.getElem?_append_right (by omega)] at g1
    rw [List.getElem?_append_right (by rw [h1.1]; omega), h1.1] at g2
    exact h2.2 _ e e' g1 g2
theorem wvll_one {η η' : Nat → Ent} {i ver ver' k len : Nat} {B B' : Blk} {u : Value} {r r' : List (List AV)} (h1 : η i = ⟨ver, some B⟩) (h2 : η' i = ⟨ver', some B'⟩) (hs : B.sz = B'.sz) (h : WVLL η η' r r') : WVLL η η' ([.own i ver k len, .c u] :: r) ([.own i ver' k len, .c u] :: r') := by
  refine ⟨by simp [h.1], fun q e e' g1 g2 => ?_⟩
  cases q with
  | succ q => exact h.2 q e e' (by simpa using g1) (by simpa using g2)
  | zero =>
    simp only [List.getElem?_cons_zero, Option.some.injEq] at g1 g2
    subst g1 g2
    refine ⟨rfl, fun j x x' q1 q2 N => ?_⟩
    match j with
    | 0 => simp only [List.getElem?_cons_zero, Option.some.injEq] at q1 q2; subst q1 q2; exact wv_own h1 h2 hs
    | 1 => simp at q1 q2; subst q1 q2; exact wv_fr (.c _)
    | j + 2 => simp at q1
theorem fk_at {s s' : St} {P : List AV → List Ent → Prop} (e : s = s') (h : forceK s'.tm (fun tm => forceK s'.hp (fun hp => True → P tm hp))) : forceK s.tm (fun tm => forceK s.hp (fun hp => True → P tm hp)) := by subst e; exact h
theorem wvll_nil {η η' : Nat → Ent} : WVLL η η' [] [] := ⟨rfl, fun k e e' h => by simp at h⟩
theorem wvll_last {η η' : Nat → Ent} {i ver ver' len i2 ver2 : Nat} {B B' : Blk} {u : Value} {v8 v9 : List Nogood} {zl : List Fact} {y2 : Int} (h1 : η i = ⟨ver, some B⟩) (h2 : η' i = ⟨ver', some B'⟩) (hs : B.sz = B'.sz) (h3 : η i2 = ⟨ver2, some ⟨68, 2, false, zl.map cF⟩⟩) (h4 : (η' i2).blk = none) (hm : zl.length ≤ 140737488355328) :
    WVLL η η' ((v8.map cN ++ [.own i ver 0 len, .c u] :: v9.map cN) ++ [[.own i2 ver2 0 zl.length, .c (.int .i64 y2)]]) (v8.map cN ++ [.own i ver' 0 len, .c u] :: (v9 ++ [(zl, y2)]).map cN) := by
  rw [List.map_append, ← List.cons_append, ← List.append_assoc]
  exact wvll_append (wvll_append (wvll_bw (bwll_fr FrI.h)) (wvll_one h1 h2 hs (wvll_bw (bwll_fr FrI.h)))) (wvll_bw (bwll_cons (BWL.cons (bw_own3 h3 h4 rfl FrI.h (bwll_same rfl FrI.h) (List.length_map _).symm hm) (BWL.cons bw_c BWL.nil)) bwll_nil))
def cpJ (a0 : GCertificate) (v7 : Int) (v8 : List Nogood) : Option (List Fact × Int × List Nogood) → St
  | none => mkG 29 30 [(2, .ptr 2 0 0 0), (3, .ptr 3 0 0 0), (10, .sl 2 (a0.Nogoods.map cN)), (11, .c (.int .i64 ((a0.Nogoods.map cN).length : Int))), (12, .c (.int .i64 v7))] [(2, ⟨31, 2, true, [[.c (.int .i64 0), .c (.slice none 0 0)]]⟩), (3, ⟨31, 2, true, [[.c (.int .i64 a0.Bound), .own 25 0 0 v8.length]]⟩), (25, ⟨40, 2, false, v8.map cN⟩)]
  | some (z, d, v9) => mkG 29 30 [(2, .ptr 2 0 0 0), (3, .ptr 3 0 0 0), (10, .sl 2 (a0.Nogoods.map cN)), (11, .c (.int .i64 ((a0.Nogoods.map cN).length : Int))), (12, .c (.int .i64 v7))] [(2, ⟨31, 2, true, [[.c (.int .i64 0), .c (.slice none 0 0)]]⟩), (3, ⟨31, 2, true, [[.c (.int .i64 a0.Bound), .own 25 0 0 (v8.length + 1 + v9.length)]]⟩), (25, ⟨40, 2, false, v8.map cN ++ [.own 26 0 0 z.length, .c (.int .i64 d)] :: v9.map cN⟩), (26, ⟨68, 2, false, z.map cF⟩)]
set_option maxHeartbeats 16000000 in
set_option maxRecDepth 100000 in
theorem A_copied_at (a0 : GCertificate) {r1 : GCertificate} (h : M_certify_copied a0 = some r1) {w1 : List Nogood} {zz : List Fact} {dd : Int} {w2 : List Nogood} (hr : r1.Nogoods = w1 ++ (zz, dd) :: w2) : ACallG cx 57 [.agg [.c (.int .i64 a0.Bound), .sl 2 (a0.Nogoods.map cN)]] [] [] (.agg [.c (.int .i64 r1.Bound), .own 0 0 0 r1.Nogoods.length]) [(0, ⟨40, 2, false, w1.map cN ++ [.own 1 0 0 zz.length, .c (.int .i64 dd)] :: w2.map cN⟩), (1, ⟨68, 2, false, zz.map cF⟩)] := by
  refine acallg_of 30 Tryz.func57 rfl (by decide) rfl (Nat.le_of_ble_eq_true rfl) rfl rfl ?_
  intro _
  unfold M_certify_copied at h
  refine aSq ?_
  refine aRg ?_
  intro _
  refine dr ?_
  refine aSq ?_
  refine aRg ?_
  intro _
  refine dr ?_
  refine aSq ?_
  refine aSq ?_
  refine aRg ?_
  intro _
  refine dr ?_
  refine aBk ?_
  refine awp_loop (α := Nat × Int × List Nogood × Option (List Fact × Int × List Nogood)) (fun x => cpJ a0 x.2.1 x.2.2.1 x.2.2.2)
    (fun x => match x.2.2.2 with
      | none => M_certify_copied_L1 a0 x.1 x.2.1 x.2.2.1 = some r1 ∧ x.2.2.1.length ≤ w1.length
      | some q => M_certify_copied_L1 a0 x.1 x.2.1 (x.2.2.1 ++ (q.1, q.2.1) :: q.2.2) = some r1 ∧ x.2.2.1.length = w1.length)
    (fun x => x.1) ((((a0.Nogoods.map cN).length : Int)).toNat + 1, 0, [], none) ⟨h, Nat.zero_le _⟩ ?_ ?_
  · repeat (first | exact True.intro | refine ci ?_)
  · rintro ⟨x1, v7, v8, _ | ⟨z, d, v9⟩⟩ ⟨h, hb⟩
    · have e : cpJ a0 v7 v8 none = mkG 29 30 [(2, .ptr 2 0 0 0), (3, .ptr 3 0 0 0), (10, .sl 2 (a0.Nogoods.map cN)), (11, .c (.int .i64 ((a0.Nogoods.map cN).length : Int))), (12, .c (.int .i64 v7))] [(2, ⟨31, 2, true, [[.c (.int .i64 0), .c (.slice none 0 0)]]⟩), (3, ⟨31, 2, true, [[.c (.int .i64 a0.Bound), .own 25 0 0 v8.length]]⟩), (25, ⟨40, 2, false, v8.map cN⟩)] := rfl
      refine fk_at e ?_
      intro _
      replace hb : v8.length ≤ w1.length := hb
      obtain ⟨k9, m2, h⟩ := succ_of (f := fun n => M_certify_copied_L1 a0 n v7 v8) rfl h
      replace h : M_certify_copied_L1 a0 (k9 + 1) v7 v8 = some r1 := h
      rw [M_certify_copied_L1] at h
      refine aSq ?_
      refine aRg ?_
      intro _
      refine dr ?_
      refine aSq ?_
      refine aCd ?_
      intro _
      refine spl h (fun c3 h => ?_) (fun c3 h => ?_)
      · refine aSk ?_
        by_cases hlt : v8.length < w1.length
        · refine aSq ?_
          refine aBk ?_
          refine aSq ?_
          refine aRg ?_
          intro _
          obtain ⟨y10, w4, q5, h⟩ := ix_ok h
          refine Exists.intro (cN y10) (And.intro (map_at' w4) ?_)
          intro _
          refine pr ?_
          refine dr ?_
          refine aRg ?_
          intro _
          obtain ⟨z11, u6, h⟩ := ob1_ok h
          refine clg [(0, 20)] [] [] [(20, ⟨2, some ⟨68, 2, false, z11.map cF⟩⟩)] (.own 20 2 0 z11.length) rfl rfl (A_cloneF y10.1 u6) ?_
          intro _
          obtain ⟨q7, h⟩ := grd_ok h
          refine pl ?_
          refine pl ?_
          refine And.intro (by first | with_reducible assumption | (show (v8.length + 1) * 32 ≤ 140737488355328; with_reducible assumption) | omega | (simp; omega)) ?_
          refine pe ?_
          refine dr ?_
          refine aRg ?_
          intro _
          refine dr ?_
          obtain ⟨q8, h⟩ := grd_ok h
          refine ⟨(k9, IntKind.i64.wrap (v7 + 1), v8 ++ [(z11, y10.2)], none), ⟨h, show (v8 ++ [(z11, y10.2)]).length ≤ w1.length by simp; omega⟩, ltS m2, ?_⟩
          repeat (first | exact True.intro | refine ci ?_)
        · refine aSq ?_
          refine aBk ?_
          refine aSq ?_
          refine aRg ?_
          intro _
          obtain ⟨y10, w4, q5, h⟩ := ix_ok h
          refine Exists.intro (cN y10) (And.intro (map_at' w4) ?_)
          intro _
          refine pr ?_
          refine dr ?_
          refine aRg ?_
          intro _
          obtain ⟨z11, u6, h⟩ := ob1_ok h
          refine clg [(0, 26)] [] [] [(26, ⟨2, some ⟨68, 2, false, z11.map cF⟩⟩)] (.own 26 2 0 z11.length) rfl rfl (A_cloneF y10.1 u6) ?_
          intro _
          obtain ⟨q7, h⟩ := grd_ok h
          refine pl ?_
          refine pl ?_
          refine And.intro (by first | with_reducible assumption | (show (v8.length + 1) * 32 ≤ 140737488355328; with_reducible assumption) | omega | (simp; omega)) ?_
          refine pe ?_
          refine dr ?_
          refine aRg ?_
          intro _
          refine dr ?_
          obtain ⟨q8, h⟩ := grd_ok h
          refine ⟨(k9, IntKind.i64.wrap (v7 + 1), v8, some (z11, y10.2, [])), ⟨h, show v8.length = w1.length by omega⟩, ltS m2, ?_⟩
          repeat (first | exact True.intro | (refine And.intro (wvll_row (wvll_append (wvll_bw (bwll_fr FrI.h)) (wvll_one rfl rfl rfl wvll_nil))) ?_) | refine ci ?_)
      · refine aEx ?_
        refine aSq ?_
        refine aRg ?_
        intro _
        refine dr ?_
        refine aRt ?_
        obtain ⟨q9, h⟩ := grd_ok h
        intro _
        obtain rfl := inj1 h
        exfalso
        replace hr : v8 = w1 ++ (zz, dd) :: w2 := hr
        have := congrArg List.length hr
        simp at this
        omega
    · have e : cpJ a0 v7 v8 (some (z, d, v9)) = mkG 29 30 [(2, .ptr 2 0 0 0), (3, .ptr 3 0 0 0), (10, .sl 2 (a0.Nogoods.map cN)), (11, .c (.int .i64 ((a0.Nogoods.map cN).length : Int))), (12, .c (.int .i64 v7))] [(2, ⟨31, 2, true, [[.c (.int .i64 0), .c (.slice none 0 0)]]⟩), (3, ⟨31, 2, true, [[.c (.int .i64 a0.Bound), .own 25 0 0 (v8.length + 1 + v9.length)]]⟩), (25, ⟨40, 2, false, v8.map cN ++ [.own 26 0 0 z.length, .c (.int .i64 d)] :: v9.map cN⟩), (26, ⟨68, 2, false, z.map cF⟩)] := rfl
      refine fk_at e ?_
      intro _
      replace hb : v8.length = w1.length := hb
      obtain ⟨k9, m2, h⟩ := succ_of (f := fun n => M_certify_copied_L1 a0 n v7 (v8 ++ (z, d) :: v9)) rfl h
      replace h : M_certify_copied_L1 a0 (k9 + 1) v7 (v8 ++ (z, d) :: v9) = some r1 := h
      rw [M_certify_copied_L1] at h
      refine aSq ?_
      refine aRg ?_
      intro _
      refine dr ?_
      refine aSq ?_
      refine aCd ?_
      intro _
      refine spl h (fun c3 h => ?_) (fun c3 h => ?_)
      · refine aSk ?_
        refine aSq ?_
        refine aBk ?_
        refine aSq ?_
        refine aRg ?_
        intro _
        obtain ⟨y10, w4, q5, h⟩ := ix_ok h
        refine Exists.intro (cN y10) (And.intro (map_at' w4) ?_)
        intro _
        refine pr ?_
        refine dr ?_
        refine aRg ?_
        intro _
        obtain ⟨z11, u6, h⟩ := ob1_ok h
        refine clg [(0, 20)] [] [] [(20, ⟨2, some ⟨68, 2, false, z11.map cF⟩⟩)] (.own 20 2 0 z11.length) rfl rfl (A_cloneF y10.1 u6) ?_
        intro _
        obtain ⟨q7, h⟩ := grd_ok h
        have len3 : (v8 ++ (z, d) :: v9).length = v8.length + 1 + v9.length := by simp only [List.length_append, List.length_cons, Nat.add_assoc, Nat.add_comm 1]
        rw [len3] at q7
        refine pl ?_
        refine pl ?_
        refine And.intro (by dsimp only [List.length_cons, List.length_nil, Nat.zero_add]; exact q7) ?_
        refine And.intro (by dsimp only [List.length_cons, List.length_nil, Nat.zero_add]; exact Nat.le_trans (Nat.le_mul_of_pos_right _ (by decide)) (Nat.le_trans q7 (by decide))) ?_
        refine dr ?_
        refine aRg ?_
        intro _
        refine dr ?_
        obtain ⟨q8, h⟩ := grd_ok h
        refine ⟨(k9, IntKind.i64.wrap (v7 + 1), v8, some (z, d, v9 ++ [(z11, y10.2)])), ⟨by simpa using h, show v8.length = w1.length from hb⟩, ltS m2, ?_⟩
        have len4 : v8.length + 1 + v9.length + 1 = v8.length + 1 + (v9 ++ [(z11, y10.2)]).length := by rw [List.length_append]; exact Nat.add_assoc (v8.length + 1) v9.length 1
        repeat (first | exact True.intro | (refine And.intro (wvll_row (wvll_last rfl rfl rfl rfl rfl q8)) ?_) | (refine And.intro (And.intro rfl len4) ?_) | refine ci ?_)
      · refine aEx ?_
        refine aSq ?_
        refine aRg ?_
        intro _
        refine dr ?_
        refine aRt ?_
        obtain ⟨q9, h⟩ := grd_ok h
        intro _
        obtain rfl := inj1 h
        replace hr : v8 ++ (z, d) :: v9 = w1 ++ (zz, dd) :: w2 := hr
        obtain ⟨hr1, hr2⟩ := List.append_inj hr hb
        obtain ⟨hr3, hr4⟩ := List.cons.inj hr2
        obtain ⟨hr5, hr6⟩ := Prod.mk.inj hr3
        subst hr1 hr4 hr5 hr6
        refine Exists.intro [(0, 25), (1, 26)] (And.intro rfl (And.intro ?_ ?_))
        · exact GWL.cons (gw_agg (GWL.cons gw_c (GWL.cons (gw_ren rfl rfl rfl rfl rfl (by show v8.length + 1 + v9.length = (v8 ++ (z, d) :: v9).length; simp only [List.length_append, List.length_cons, Nat.add_assoc, Nat.add_comm 1])) GWL.nil))) GWL.nil
        · exact ⟨gb_some ⟨rfl, rfl, rfl⟩ (gwll_append (gwll_same rfl FrI.h) (gwll_cons (GWL.cons (gw_ren rfl rfl rfl rfl rfl rfl) (GWL.cons gw_c GWL.nil)) (gwll_same rfl FrI.h))), gb_some ⟨rfl, rfl, rfl⟩ (gwll_same rfl FrI.h), True.intro⟩
end Go.Proofs.YtohjegemooakpaaGreat.Am
/- Models printed by my decompiler, and the proofs that the code computes them. -/
namespace Go.Proofs.YtohjegemooakpaaGreat.Am
set_option maxHeartbeats 16000000
set_option maxRecDepth 100000
open Go.RowKit
def M_l32_fit (a0 : GTask) : Option (Bool) :=
  ob1 (M_b_Tame a0) (fun z1 =>
   sel z1
    (sel (decide (((a0.Ops.map cGOp).length : Int) ≤ 10))
      (ob1 (M_b_Many a0.Vars 81) (fun z2 =>
        some (decide (z2 ≤ 81))))
      (some false))
    (some false))
theorem A_l32_fit (a0 : GTask) {r1 : Bool} (h : M_l32_fit a0 = some r1) : ACall cx 11 [.agg [.sl 1 (a0.Vars.map cI), .sl 1 (a0.Init.map cI), .sl 2 (a0.Goal.map cF), .sl 4 (a0.Ops.map cGOp)]] (.c (.bool r1)) := by
  refine aOf Tryz.func11 rfl (by decide) rfl (Nat.le_of_ble_eq_true rfl) ?_; intro _; unfold M_l32_fit at h; refine aSR ?_; intro _; refine dr ?_; refine aSR ?_; intro _; obtain ⟨z1, u1, h⟩ := ob1_ok h; refine cl rfl (A_b_Tame a0 u1) ?_; intro _; refine spl h (fun c2 h => ?_) (fun c2 h => ?_)
  · intro _; refine spl h (fun c3 h => ?_) (fun c3 h => ?_)
    · intro _; obtain ⟨z2, u4, h⟩ := ob1_ok h; refine cl rfl (A_b_Many a0.Vars 81 u4) ?_; intro _; refine dr ?_; refine aRt ?_; intro _; obtain rfl := inj1 h; exact ca_0
    · intro _; refine dr ?_; refine aRt ?_; intro _; obtain rfl := inj1 h; exact ca_0
  · intro _; refine dr ?_; refine aRt ?_; intro _; obtain rfl := inj1 h; exact ca_0
def M_certify_Weaken_L1 (a0 : GTask) (a2 : Int) (g : Nat) (v312 : Int) : Nat → Int → Int → (List Nogood) → Option (Int × (List Nogood))
  | 0, _, _, _ => none
  | k367 + 1, v364, v365, v366 =>
    ix v366 v312 (fun y368 =>
     sel (decide (v364 < ((y368.1.map cF).length : Int)))
      (ob1 (M_certify_copied ({ Bound := v365, Nogoods := v366 : GCertificate })) (fun z369 =>
        ixn z369.Nogoods ((v312).toNat) (fun y370 =>
         ob1 (M_delF y370.1 v364 (IntKind.i64.wrap (v364 + 1))) (fun z371 =>
          ixn z369.Nogoods ((v312).toNat) (fun y372 =>
           grd (v312 < ((z369.Nogoods.length : Nat) : Int)) (grd (z369.Nogoods.length ≤ 140737488355328) (ob1 (M_checker_Verify g a0 ({ Bound := z369.Bound, Nogoods := (z369.Nogoods.set ((v312).toNat) (z371, y372.2)) : GCertificate }) a2) (fun z373 =>
            erM z373
             (M_certify_Weaken_L1 a0 a2 g v312 k367 v364 z369.Bound (z369.Nogoods.set ((v312).toNat) (z371, y372.2)))
             (fun _ => M_certify_Weaken_L1 a0 a2 g v312 k367 (IntKind.i64.wrap (v364 + 1)) v365 v366)))))))))
      (some (v365, v366)))
def M_certify_Weaken_L2 (a0 : GTask) (a2 : Int) (g : Nat) (z3 : GCertificate) : Nat → Int → Int → (List Nogood) → Option (Int × (List Nogood))
  | 0, _, _, _ => none
  | k315 + 1, v312, v313, v314 =>
    sel (decide (v312 < ((z3.Nogoods.length : Nat) : Int)))
     (ob1 (M_certify_Weaken_L1 a0 a2 g v312 g 0 v313 v314 : Option (Int × (List Nogood)))
       (fun (v344, v345) => M_certify_Weaken_L2 a0 a2 g z3 k315 (IntKind.i64.wrap (v312 + 1)) v344 v345))
     (some (v313, v314))
def M_certify_Weaken_L3 (a0 : GTask) (a2 : Int) (g : Nat) : Nat → Int → Int → (List Nogood) → Option (GCertificate × Er)
  | 0, _, _, _ => none
  | k389 + 1, v386, v387, v388 =>
    sel (decide (v386 < ((v388.map cN).length : Int)))
     (ob1 (M_certify_copied ({ Bound := v387, Nogoods := v388 : GCertificate })) (fun z390 =>
       ob1 (M_delN z390.Nogoods v386 (IntKind.i64.wrap (v386 + 1))) (fun z391 =>
        grd (z391.length ≤ 140737488355328) (ob1 (M_checker_Verify g a0 ({ Bound := z390.Bound, Nogoods := z391 : GCertificate }) a2) (fun z392 =>
         erM z392
          (M_certify_Weaken_L3 a0 a2 g k389 v386 z390.Bound z391)
          (fun _ => M_certify_Weaken_L3 a0 a2 g k389 (IntKind.i64.wrap (v386 + 1)) v387 v388))))))
     (some ({ Bound := v387, Nogoods := v388 : GCertificate }, Er.nil))
def M_certify_Weaken (g : Nat) (a0 : GTask) (a1 : GCertificate) (a2 : Int) : Option (GCertificate × Er) :=
  ob1 (M_checker_Verify g a0 a1 a2) (fun z1 =>
   erM z1
    (ob1 (M_certify_copied a1) (fun z3 =>
      ob1 (grd (z3.Nogoods.length ≤ 140737488355328) (M_certify_Weaken_L2 a0 a2 g z3 ((((z3.Nogoods.length : Nat) : Int)).toNat + 1) 0 z3.Bound z3.Nogoods) : Option (Int × (List Nogood)))
       (fun (v188, v189) => M_certify_Weaken_L3 a0 a2 g g 0 v188 v189)))
    (fun e2 => some ({ Bound := 0, Nogoods := [] : GCertificate }, (Er.no e2))))
theorem A_certify_Weaken (g : Nat) (a0 : GTask) (a1 : GCertificate) (a2 : Int) {r1 : GCertificate} {r2 : Er} (h : M_certify_Weaken g a0 a1 a2 = some (r1, r2)) : ACall cx 32 [.agg [.sl 1 (a0.Vars.map cI), .sl 1 (a0.Init.map cI), .sl 2 (a0.Goal.map cF), .sl 4 (a0.Ops.map cGOp)], .agg [.c (.int .i64 a1.Bound), .sl 2 (a1.Nogoods.map cN)], .c (.int .i64 a2)] (.tup [.agg [.c (.int .i64 r1.Bound), .sl 2 (r1.Nogoods.map cN)], eA r2]) := by
  refine aOf Tryz.func32 rfl (by decide) rfl (Nat.le_of_ble_eq_true rfl) ?_; intro _; unfold M_certify_Weaken at h; refine aSR ?_; intro _; refine dr ?_; refine aSq ?_; refine aSR ?_; intro _; obtain ⟨z1, u1, h⟩ := ob1_ok h; refine cl rfl (A_checker_Verify g a0 a1 a2 u1) ?_; intro _; refine dr ?_; refine aSq ?_; rcases z1 with _ | e2
  · replace h := erM_nil h; refine aRg ?_; intro _; refine dr ?_; refine aCd ?_; intro _; refine litF ?_; refine aSk ?_; refine aSR ?_; intro _; obtain ⟨z3, u2, h⟩ := ob1_ok h; refine clg [(0, 23)] [] [] [(23, ⟨2, some ⟨40, 2, false, z3.Nogoods.map cN⟩⟩)] (.agg [.c (.int .i64 z3.Bound), .own 23 2 0 z3.Nogoods.length]) rfl rfl (A_certify_copied a1 u2) ?_; intro _; refine dr ?_; obtain ⟨o3, h, hK4⟩ := ob1_ok h; refine awp_cut (α := Int × (List Nogood)) (fun (v188, v189) => mkS 88 [(2, .c (.int .i64 a2)), (3, .ptr 3 0 0 0), (4, .ptr 4 0 0 0), (6, .ptr 6 0 0 0)] [(3, ⟨26, 4, true, [[.sl 1 (a0.Vars.map cI), .sl 1 (a0.Init.map cI), .sl 2 (a0.Goal.map cF), .sl 4 (a0.Ops.map cGOp)]]⟩), (4, ⟨31, 2, true, [[.c (.int .i64 v188), .sl 2 (v189.map cN)]]⟩), (6, ⟨31, 2, true, [[.c (.int .i64 0), .c (.slice none 0 0)]]⟩)]) (fun v => o3 = v) ?_ ?_
    · refine aSR ?_; intro _; refine dr ?_; refine aBk ?_; obtain ⟨q5, h⟩ := grd_ok h; refine awp_loop (α := Nat × Int × Int × (List Nogood)) (fun x => mkS 88 [(2, .c (.int .i64 a2)), (3, .ptr 3 0 0 0), (4, .ptr 4 0 0 0), (6, .ptr 6 0 0 0), (26, .c (.int .i64 ((z3.Nogoods.length : Nat) : Int))), (27, .c (.int .i64 x.2.1))] [(3, ⟨26, 4, true, [[.sl 1 (a0.Vars.map cI), .sl 1 (a0.Init.map cI), .sl 2 (a0.Goal.map cF), .sl 4 (a0.Ops.map cGOp)]]⟩), (4, ⟨31, 2, true, [[.c (.int .i64 x.2.2.1), .sl 2 (x.2.2.2.map cN)]]⟩), (6, ⟨31, 2, true, [[.c (.int .i64 0), .c (.slice none 0 0)]]⟩)]) (fun x => M_certify_Weaken_L2 a0 a2 g z3 x.1 x.2.1 x.2.2.1 x.2.2.2 = some o3) (fun x => x.1) ((((z3.Nogoods.length : Nat) : Int)).toNat + 1, 0, z3.Bound, z3.Nogoods) h ?_ ?_
      · exact ca_0
      · intro x6 h; intro _; obtain ⟨k315, m7, h⟩ := succ_of (f := fun n => M_certify_Weaken_L2 a0 a2 g z3 n x6.2.1 x6.2.2.1 x6.2.2.2) rfl h; replace h : M_certify_Weaken_L2 a0 a2 g z3 (k315 + 1) x6.2.1 x6.2.2.1 x6.2.2.2 = some o3 := h; rw [M_certify_Weaken_L2] at h; refine aSR ?_; intro _; refine dr ?_; refine aSq ?_; refine aCd ?_; intro _; refine spl h (fun c8 h => ?_) (fun c8 h => ?_)
        · refine aSk ?_; obtain ⟨o9, h, hK10⟩ := ob1_ok h; refine awp_cut (α := Int × (List Nogood)) (fun (v344, v345) => mkS 88 [(2, .c (.int .i64 a2)), (3, .ptr 3 0 0 0), (4, .ptr 4 0 0 0), (6, .ptr 6 0 0 0), (26, .c (.int .i64 ((z3.Nogoods.length : Nat) : Int))), (27, .c (.int .i64 x6.2.1))] [(3, ⟨26, 4, true, [[.sl 1 (a0.Vars.map cI), .sl 1 (a0.Init.map cI), .sl 2 (a0.Goal.map cF), .sl 4 (a0.Ops.map cGOp)]]⟩), (4, ⟨31, 2, true, [[.c (.int .i64 v344), .sl 2 (v345.map cN)]]⟩), (6, ⟨31, 2, true, [[.c (.int .i64 0), .c (.slice none 0 0)]]⟩)]) (fun v => o9 = v) ?_ ?_
          · refine aBk ?_; refine aSR ?_; intro _; refine dr ?_; refine aSR ?_; intro _; refine dr ?_; refine aBk ?_; refine awp_loop (α := Nat × Int × Int × (List Nogood)) (fun x => mkS 88 [(2, .c (.int .i64 a2)), (3, .ptr 3 0 0 0), (4, .ptr 4 0 0 0), (6, .ptr 6 0 0 0), (9, .c (.int .i64 x6.2.1)), (10, .c (.int .i64 x.2.1)), (26, .c (.int .i64 ((z3.Nogoods.length : Nat) : Int))), (27, .c (.int .i64 x6.2.1))] [(3, ⟨26, 4, true, [[.sl 1 (a0.Vars.map cI), .sl 1 (a0.Init.map cI), .sl 2 (a0.Goal.map cF), .sl 4 (a0.Ops.map cGOp)]]⟩), (4, ⟨31, 2, true, [[.c (.int .i64 x.2.2.1), .sl 2 (x.2.2.2.map cN)]]⟩), (6, ⟨31, 2, true, [[.c (.int .i64 0), .c (.slice none 0 0)]]⟩)]) (fun x => M_certify_Weaken_L1 a0 a2 g x6.2.1 x.1 x.2.1 x.2.2.1 x.2.2.2 = some o9) (fun x => x.1) (g, 0, x6.2.2.1, x6.2.2.2) h ?_ ?_
            · exact ca_0
            · intro x11 h; intro _; obtain ⟨k367, m12, h⟩ := succ_of (f := fun n => M_certify_Weaken_L1 a0 a2 g x6.2.1 n x11.2.1 x11.2.2.1 x11.2.2.2) rfl h; replace h : M_certify_Weaken_L1 a0 a2 g x6.2.1 (k367 + 1) x11.2.1 x11.2.2.1 x11.2.2.2 = some o9 := h; rw [M_certify_Weaken_L1] at h; refine aSq ?_; refine aSR ?_; intro _; obtain ⟨y368, w13, q14, h⟩ := ix_ok h; refine Exists.intro (cN y368) (And.intro (map_at' w13) ?_); intro _; refine pr ?_; refine dr ?_; refine aCd ?_; intro _; refine spl h (fun c15 h => ?_) (fun c15 h => ?_)
              · refine aSk ?_; refine aBk ?_; refine aSR ?_; intro _; obtain ⟨z369, u16, h⟩ := ob1_ok h; obtain ⟨y370, w17, h⟩ := ixn_ok h; obtain ⟨z371, u18, h⟩ := ob1_ok h; obtain ⟨y372, w19, h⟩ := ixn_ok h; rw [show y372 = y370 from Option.some.inj (w19.symm.trans w17)] at h; obtain ⟨w1, w2, hsp, hlen⟩ := split_at w17; refine clg [(0, 40), (1, 41)] [] [] [(40, ⟨2, some ⟨40, 2, false, w1.map cN ++ [.own 41 2 0 y370.1.length, .c (.int .i64 y370.2)] :: w2.map cN⟩⟩), (41, ⟨2, some ⟨68, 2, false, y370.1.map cF⟩⟩)] (.agg [.c (.int .i64 z369.Bound), .own 40 2 0 z369.Nogoods.length]) rfl rfl (A_copied_at (zz := y370.1) (dd := y370.2) ({ Bound := x11.2.2.1, Nogoods := x11.2.2.2 : GCertificate }) u16 hsp) ?_; intro _; refine dr ?_; refine aSR ?_; intro _; refine Exists.intro [.own 41 2 0 y370.1.length, .c (.int .i64 y370.2)] (And.intro (foc_at ((List.length_map _).trans (hlen.trans (Nat.zero_add _).symm))) ?_); intro _; refine clg [(0, 41), (0, 41)] [] [(41, ⟨3, none⟩)] [(41, ⟨4, some ⟨68, 2, false, z371.map cF⟩⟩)] (.own 41 4 0 z371.length) rfl rfl (A_delF1 y370.1 x11.2.1 (IntKind.i64.wrap (x11.2.1 + 1)) u18) ?_; intro _; refine Exists.intro [.own 41 2 0 y370.1.length, .c (.int .i64 y370.2)] (And.intro (foc_at ((List.length_map _).trans (hlen.trans (Nat.zero_add _).symm))) ?_); intro _; obtain ⟨q20, h⟩ := grd_ok h; refine pr ?_; refine pr ?_; refine pr ?_; refine pr ?_; refine dr ?_; refine awp_wk (mkS 88 [(2, .c (.int .i64 a2)), (3, .ptr 3 0 0 0), (4, .ptr 4 0 0 0), (6, .ptr 6 0 0 0), (9, .c (.int .i64 x6.2.1)), (10, .c (.int .i64 x11.2.1)), (11, .ptr 11 0 0 0), (26, .c (.int .i64 ((z3.Nogoods.length : Nat) : Int))), (27, .c (.int .i64 x6.2.1))] [(3, ⟨26, 4, true, [[.sl 1 (a0.Vars.map cI), .sl 1 (a0.Init.map cI), .sl 2 (a0.Goal.map cF), .sl 4 (a0.Ops.map cGOp)]]⟩), (4, ⟨31, 2, true, [[.c (.int .i64 x11.2.2.1), .sl 2 (x11.2.2.2.map cN)]]⟩), (6, ⟨31, 2, true, [[.c (.int .i64 0), .c (.slice none 0 0)]]⟩), (11, ⟨31, 2, true, [[.c (.int .i64 z369.Bound), .own 40 0 0 z369.Nogoods.length]]⟩), (40, ⟨40, 2, false, (z369.Nogoods.set ((x6.2.1).toNat) (z371, y370.2)).map cN⟩)]) ?_ ?_
                · repeat (first | exact True.intro | (refine And.intro (row_part1 (foc_frz hsp hlen (Nat.zero_add _) rfl rfl (delF_len u18))) ?_) | refine ci ?_)
                intro _; refine aSR ?_; intro _; obtain ⟨q21, h⟩ := grd_ok h; obtain ⟨z373, u22, h⟩ := ob1_ok h; refine clb [40] rfl rfl (A_checker_Verify g a0 ({ Bound := z369.Bound, Nogoods := (z369.Nogoods.set ((x6.2.1).toNat) (z371, y370.2)) : GCertificate }) a2 u22) ?_; rcases z373 with _ | e374
                · replace h := erM_nil h; intro _; refine dr ?_; refine aCd ?_; intro _; refine litT ?_; refine aRg ?_; intro _; refine dr ?_; refine ⟨(k367, x11.2.1, z369.Bound, (z369.Nogoods.set ((x6.2.1).toNat) (z371, y370.2))), h, ltS m12, ?_⟩; exact ca_0
                · replace h := erM_no h; intro _; refine dr ?_; refine aCd ?_; intro _; refine litF ?_; refine aRg ?_; intro _; refine dr ?_; refine ⟨(k367, (IntKind.i64.wrap (x11.2.1 + 1)), x11.2.2.1, x11.2.2.2), h, ltS m12, ?_⟩; exact ca_0
              · refine aEx ?_; refine ⟨(x11.2.2.1, x11.2.2.2), (Option.some.inj h).symm, ?_⟩; exact ca_0
          · rintro ⟨v344, v345⟩ ho; have ho := ho.symm; subst ho; intro _; replace h := hK10; refine aRg ?_; intro _; refine dr ?_; refine ⟨(k315, (IntKind.i64.wrap (x6.2.1 + 1)), v344, v345), h, ltS m7, ?_⟩; exact ca_0
        · refine aEx ?_; refine ⟨(x6.2.2.1, x6.2.2.2), (Option.some.inj h).symm, ?_⟩; exact ca_0
    · rintro ⟨v188, v189⟩ ho; have ho := ho.symm; subst ho; intro _; replace h := hK4; refine aSq ?_; refine aSR ?_; intro _; refine dr ?_; refine aBk ?_; refine awp_loop (α := Nat × Int × Int × (List Nogood)) (fun x => mkS 88 [(2, .c (.int .i64 a2)), (3, .ptr 3 0 0 0), (4, .ptr 4 0 0 0), (6, .ptr 6 0 0 0), (12, .c (.int .i64 x.2.1))] [(3, ⟨26, 4, true, [[.sl 1 (a0.Vars.map cI), .sl 1 (a0.Init.map cI), .sl 2 (a0.Goal.map cF), .sl 4 (a0.Ops.map cGOp)]]⟩), (4, ⟨31, 2, true, [[.c (.int .i64 x.2.2.1), .sl 2 (x.2.2.2.map cN)]]⟩), (6, ⟨31, 2, true, [[.c (.int .i64 0), .c (.slice none 0 0)]]⟩)]) (fun x => M_certify_Weaken_L3 a0 a2 g x.1 x.2.1 x.2.2.1 x.2.2.2 = some (r1, r2)) (fun x => x.1) (g, 0, v188, v189) h ?_ ?_
      · exact ca_0
      · intro x23 h; intro _; obtain ⟨k389, m24, h⟩ := succ_of (f := fun n => M_certify_Weaken_L3 a0 a2 g n x23.2.1 x23.2.2.1 x23.2.2.2) rfl h; replace h : M_certify_Weaken_L3 a0 a2 g (k389 + 1) x23.2.1 x23.2.2.1 x23.2.2.2 = some (r1, r2) := h; rw [M_certify_Weaken_L3] at h; refine aSq ?_; refine aSR ?_; intro _; refine dr ?_; refine aCd ?_; intro _; refine spl h (fun c25 h => ?_) (fun c25 h => ?_)
        · refine aSk ?_; refine aBk ?_; refine aSR ?_; intro _; obtain ⟨z390, u26, h⟩ := ob1_ok h; refine clg [(0, 71)] [] [] [(71, ⟨2, some ⟨40, 2, false, z390.Nogoods.map cN⟩⟩)] (.agg [.c (.int .i64 z390.Bound), .own 71 2 0 z390.Nogoods.length]) rfl rfl (A_certify_copied ({ Bound := x23.2.2.1, Nogoods := x23.2.2.2 : GCertificate }) u26) ?_; intro _; refine dr ?_; refine aSR ?_; intro _; obtain ⟨z391, u27, h⟩ := ob1_ok h; refine clg [(0, 71), (0, 71)] [] [(71, ⟨3, none⟩)] [(71, ⟨4, some ⟨40, 2, false, z391.map cN⟩⟩)] (.own 71 4 0 z391.length) rfl rfl (A_delN1 z390.Nogoods x23.2.1 (IntKind.i64.wrap (x23.2.1 + 1)) u27) ?_; intro _; refine dr ?_; refine aSR ?_; intro _; obtain ⟨q28, h⟩ := grd_ok h; obtain ⟨z392, u29, h⟩ := ob1_ok h; refine clb [71] rfl rfl (A_checker_Verify g a0 ({ Bound := z390.Bound, Nogoods := z391 : GCertificate }) a2 u29) ?_; rcases z392 with _ | e393
          · replace h := erM_nil h; intro _; refine dr ?_; refine aCd ?_; intro _; refine litT ?_; refine aRg ?_; intro _; refine dr ?_; refine ⟨(k389, x23.2.1, z390.Bound, z391), h, ltS m24, ?_⟩; exact ca_0
          · replace h := erM_no h; intro _; refine dr ?_; refine aCd ?_; intro _; refine litF ?_; refine aRg ?_; intro _; refine dr ?_; refine ⟨(k389, (IntKind.i64.wrap (x23.2.1 + 1)), x23.2.2.1, x23.2.2.2), h, ltS m24, ?_⟩; exact ca_0
        · refine aEx ?_; refine aSR ?_; intro _; refine dr ?_; refine aRt ?_; intro _; obtain ⟨rfl, rfl⟩ := inj2 h; exact ca_0
  · replace h := erM_no h; refine aRg ?_; intro _; refine dr ?_; refine aCd ?_; intro _; refine litT ?_; refine aSR ?_; intro _; refine dr ?_; refine aRt ?_; intro _; obtain ⟨rfl, rfl⟩ := inj2 h; exact ca_0
def M_l30_Same_L1 (a0 : GCertificate) (a1 : GCertificate) : Nat → Int → Option (Bool)
  | 0, _ => none
  | k15 + 1, v14 =>
    sel (decide (v14 < ((a0.Nogoods.map cN).length : Int)))
     (ix a0.Nogoods v14 (fun y16 =>
       ix a1.Nogoods v14 (fun y17 =>
        sel (y16.2 != y17.2)
         (some false)
         (ix a0.Nogoods v14 (fun y18 =>
           ix a1.Nogoods v14 (fun y19 =>
            ob1 (M_b_Facts y18.1 y19.1) (fun z20 =>
             sel (!z20)
              (some false)
              (M_l30_Same_L1 a0 a1 k15 (IntKind.i64.wrap (v14 + 1))))))))))
     (some true)
def M_l30_Same (a0 : GCertificate) (a1 : GCertificate) : Option (Bool) :=
  ob1 (sel (a0.Bound != a1.Bound)
    (some (.inr false))
    (sel (((a0.Nogoods.map cN).length : Int) != ((a1.Nogoods.map cN).length : Int))
      (some (.inr false))
      (some (.inl ()))) : Option (Unit ⊕ Bool))
   (osum
   (fun _ => M_l30_Same_L1 a0 a1 ((((a0.Nogoods.map cN).length : Int)).toNat + 1) 0)
   (fun r1 => some r1))
theorem A_l30_Same (a0 : GCertificate) (a1 : GCertificate) {r1 : Bool} (h : M_l30_Same a0 a1 = some r1) : ACall cx 24 [.agg [.c (.int .i64 a0.Bound), .sl 2 (a0.Nogoods.map cN)], .agg [.c (.int .i64 a1.Bound), .sl 2 (a1.Nogoods.map cN)]] (.c (.bool r1)) := by
  refine aOf Tryz.func24 rfl (by decide) rfl (Nat.le_of_ble_eq_true rfl) ?_; intro _; unfold M_l30_Same at h; refine aSR ?_; intro _; refine dr ?_; obtain ⟨o1, h, hK2⟩ := ob1_ok h; refine awp_cut (α := Unit) (fun _ => mkS 56 [(2, .ptr 2 0 0 0), (3, .ptr 3 0 0 0)] [(2, ⟨31, 2, true, [[.c (.int .i64 a0.Bound), .sl 2 (a0.Nogoods.map cN)]]⟩), (3, ⟨31, 2, true, [[.c (.int .i64 a1.Bound), .sl 2 (a1.Nogoods.map cN)]]⟩)]) (fun v => o1 = (.inl v)) ?_ ?_
  · refine aSR ?_; intro _; refine spf h (fun c3 h => ?_) (fun c3 h => ?_)
    · intro _; refine dr ?_; refine aCd ?_; intro _; refine spl h (fun c4 h => ?_) (fun c4 h => ?_)
      · refine aSR ?_; intro _; refine dr ?_; refine aRt ?_; have j5 := Option.some.inj h; subst j5; replace h := (osum_r hK2); intro _; obtain rfl := inj1 h; exact ca_0
      · refine aSk ?_; refine ⟨(), (Option.some.inj h).symm, ?_⟩; exact ca_0
    · intro _; refine dr ?_; refine aCd ?_; intro _; refine litT ?_; refine aSR ?_; intro _; refine dr ?_; refine aRt ?_; have j6 := Option.some.inj h; subst j6; replace h := (osum_r hK2); intro _; obtain rfl := inj1 h; exact ca_0
  · rintro _ ho; have ho := ho.symm; subst ho; intro _; replace h := (osum_l hK2); refine aSq ?_; refine aSR ?_; intro _; refine dr ?_; refine aBk ?_; refine awp_loop (α := Nat × Int) (fun x => mkS 56 [(2, .ptr 2 0 0 0), (3, .ptr 3 0 0 0), (22, .c (.int .i64 ((a0.Nogoods.map cN).length : Int))), (23, .c (.int .i64 x.2))] [(2, ⟨31, 2, true, [[.c (.int .i64 a0.Bound), .sl 2 (a0.Nogoods.map cN)]]⟩), (3, ⟨31, 2, true, [[.c (.int .i64 a1.Bound), .sl 2 (a1.Nogoods.map cN)]]⟩)]) (fun x => M_l30_Same_L1 a0 a1 x.1 x.2 = some r1) (fun x => x.1) ((((a0.Nogoods.map cN).length : Int)).toNat + 1, 0) h ?_ ?_
    · exact ca_0
    · intro x7 h; intro _; obtain ⟨k15, m8, h⟩ := succ_of (f := fun n => M_l30_Same_L1 a0 a1 n x7.2) rfl h; replace h : M_l30_Same_L1 a0 a1 (k15 + 1) x7.2 = some r1 := h; rw [M_l30_Same_L1] at h; refine aSR ?_; intro _; refine dr ?_; refine aSq ?_; refine aCd ?_; intro _; refine spl h (fun c9 h => ?_) (fun c9 h => ?_)
      · refine aSk ?_; refine aSq ?_; refine aBk ?_; refine aSR ?_; intro _; refine dr ?_; refine aSR ?_; intro _; obtain ⟨y16, w10, q11, h⟩ := ix_ok h; refine Exists.intro (cN y16) (And.intro (map_at' w10) ?_); intro _; obtain ⟨y17, w12, q13, h⟩ := ix_ok h; refine Exists.intro (cN y17) (And.intro (map_at' w12) ?_); intro _; refine spf h (fun c14 h => ?_) (fun c14 h => ?_)
        · intro _; obtain ⟨y18, w15, q16, h⟩ := ix_ok h; refine Exists.intro (cN y18) (And.intro (map_at' w15) ?_); intro _; obtain ⟨y19, w17, q18, h⟩ := ix_ok h; refine Exists.intro (cN y19) (And.intro (map_at' w17) ?_); intro _; obtain ⟨z20, u19, h⟩ := ob1_ok h; refine cl rfl (A_b_Facts y18.1 y19.1 u19) ?_; intro _; refine pr ?_; refine pr ?_; refine pr ?_; refine pr ?_; refine dr ?_; refine aCd ?_; intro _; refine spl h (fun c20 h => ?_) (fun c20 h => ?_)
          · refine aSR ?_; intro _; refine dr ?_; refine aRt ?_; intro _; obtain rfl := inj1 h; exact ca_0
          · refine aSk ?_; refine aRg ?_; intro _; refine dr ?_; refine ⟨(k15, (IntKind.i64.wrap (x7.2 + 1))), h, ltS m8, ?_⟩; exact ca_0
        · intro _; refine pr ?_; refine pr ?_; refine dr ?_; refine aCd ?_; intro _; refine litT ?_; refine aSR ?_; intro _; refine dr ?_; refine aRt ?_; intro _; obtain rfl := inj1 h; exact ca_0
      · refine aEx ?_; refine aSR ?_; intro _; refine dr ?_; refine aRt ?_; intro _; obtain rfl := inj1 h; exact ca_0
def M_l32_CertifyWeakens_L1 (a1 : GCertificate) (y161 : Nogood) : Nat → Bool → Int → Option (Bool)
  | 0, _, _ => none
  | k183 + 1, v181, v182 =>
    sel (decide (v182 < ((a1.Nogoods.map cN).length : Int)))
     (ix a1.Nogoods v182 (fun y184 =>
       sel v181
        (M_l32_CertifyWeakens_L1 a1 y161 k183 true (IntKind.i64.wrap (v182 + 1)))
        (sel (y161.2 == y184.2)
          (ob1 (M_p_Contains y184.1 y161.1) (fun z185 =>
            M_l32_CertifyWeakens_L1 a1 y161 k183 z185 (IntKind.i64.wrap (v182 + 1))))
          (M_l32_CertifyWeakens_L1 a1 y161 k183 false (IntKind.i64.wrap (v182 + 1))))))
     (some v181)
def M_l32_CertifyWeakens_L2 (a1 : GCertificate) (z15 : GCertificate) : Nat → Int → Option (Bool)
  | 0, _ => none
  | k133 + 1, v132 =>
    sel (decide (v132 < ((z15.Nogoods.map cN).length : Int)))
     (ob1 (ix z15.Nogoods v132 (fun y161 =>
        ob1 (M_l32_CertifyWeakens_L1 a1 y161 ((((a1.Nogoods.map cN).length : Int)).toNat + 1) false 0 : Option (Bool))
         (fun v173 => sel (!v173)
            (some (.inr false))
            (some (.inl ())))) : Option (Unit ⊕ Bool))
       (osum
       (fun _ => M_l32_CertifyWeakens_L2 a1 z15 k133 (IntKind.i64.wrap (v132 + 1)))
       (fun r159 => some r159)))
     (some true)
def M_l32_CertifyWeakens (g : Nat) (a0 : GTask) (a1 : GCertificate) : Option (Bool) :=
  ob1 (ob1 (M_l32_fit a0) (fun z9 =>
    sel (!z9)
     (ob1 (M_l32_awake g) (fun z14 =>
       some (.inr z14)))
     (sel (decide (((a0.Ops.map cGOp).length : Int) > 6))
       (ob1 (M_l32_awake g) (fun z13 =>
         some (.inr z13)))
       (sel (decide (((a1.Nogoods.map cN).length : Int) > 10))
         (ob1 (M_l32_awake g) (fun z12 =>
           some (.inr z12)))
         (ob1 (M_l32_awake g) (fun z10 =>
           sel (!z10)
            (ob1 (M_l32_awake g) (fun z11 =>
              some (.inr z11)))
            (some (.inl ()))))))) : Option (Unit ⊕ Bool))
   (osum
   (fun _ => ob2 (M_certify_Weaken g a0 a1 20000) (fun z15 z16 =>
      ob1 (M_checker_Verify g a0 a1 20000) (fun z17 =>
       erM z17
        (ob1 (erM z16
           (sel (z15.Bound != a1.Bound)
             (some (.inr false))
             (sel (decide (((z15.Nogoods.map cN).length : Int) > ((a1.Nogoods.map cN).length : Int)))
               (some (.inr false))
               (ob1 (M_checker_Verify g a0 z15 20000) (fun z25 =>
                 erM z25
                  (some (.inl ()))
                  (fun _ => some (.inr false))))))
           (fun _ => some (.inr false)) : Option (Unit ⊕ Bool))
          (osum
          (fun _ => M_l32_CertifyWeakens_L2 a1 z15 ((((z15.Nogoods.map cN).length : Int)).toNat + 1) 0)
          (fun r22 => some r22)))
        (fun e18 => ob1 (M_b_Num z16) (fun z186 =>
          ob1 (M_b_Num (Er.no e18)) (fun z187 =>
           sel (z186 == z187)
            (ob1 (M_l30_Same z15 ({ Bound := 0, Nogoods := [] : GCertificate })) (fun z188 =>
              some z188))
            (some false)))))))
   (fun r7 => some r7))
theorem A_l32_CertifyWeakens (g : Nat) (a0 : GTask) (a1 : GCertificate) {r1 : Bool} (h : M_l32_CertifyWeakens g a0 a1 = some r1) : ACall cx 9 [.agg [.sl 1 (a0.Vars.map cI), .sl 1 (a0.Init.map cI), .sl 2 (a0.Goal.map cF), .sl 4 (a0.Ops.map cGOp)], .agg [.c (.int .i64 a1.Bound), .sl 2 (a1.Nogoods.map cN)]] (.c (.bool r1)) := by
  refine aOf Tryz.func9 rfl (by decide) rfl (Nat.le_of_ble_eq_true rfl) ?_; intro _; unfold M_l32_CertifyWeakens at h; refine aSR ?_; intro _; refine dr ?_; obtain ⟨o1, h, hK2⟩ := ob1_ok h; refine awp_cut (α := Unit) (fun _ => mkS 111 [(2, .ptr 2 0 0 0), (3, .ptr 3 0 0 0)] [(2, ⟨26, 4, true, [[.sl 1 (a0.Vars.map cI), .sl 1 (a0.Init.map cI), .sl 2 (a0.Goal.map cF), .sl 4 (a0.Ops.map cGOp)]]⟩), (3, ⟨31, 2, true, [[.c (.int .i64 a1.Bound), .sl 2 (a1.Nogoods.map cN)]]⟩)]) (fun v => o1 = (.inl v)) ?_ ?_
  · refine aSR ?_; intro _; obtain ⟨z9, u3, h⟩ := ob1_ok h; refine cl rfl (A_l32_fit a0 u3) ?_; intro _; refine spf h (fun c4 h => ?_) (fun c4 h => ?_)
    · intro _; refine spf h (fun c5 h => ?_) (fun c5 h => ?_)
      · intro _; refine spf h (fun c6 h => ?_) (fun c6 h => ?_)
        · intro _; obtain ⟨z10, u7, h⟩ := ob1_ok h; refine cl rfl (A_l32_awake g u7) ?_; intro _; refine dr ?_; refine aCd ?_; intro _; refine spl h (fun c8 h => ?_) (fun c8 h => ?_)
          · refine aSR ?_; intro _; obtain ⟨z11, u9, h⟩ := ob1_ok h; refine cl rfl (A_l32_awake g u9) ?_; intro _; refine dr ?_; refine aRt ?_; have j10 := Option.some.inj h; subst j10; replace h := (osum_r hK2); intro _; obtain rfl := inj1 h; exact ca_0
          · refine aSk ?_; refine ⟨(), (Option.some.inj h).symm, ?_⟩; exact ca_0
        · intro _; refine dr ?_; refine aCd ?_; intro _; refine litT ?_; refine aSR ?_; intro _; obtain ⟨z12, u11, h⟩ := ob1_ok h; refine cl rfl (A_l32_awake g u11) ?_; intro _; refine dr ?_; refine aRt ?_; have j12 := Option.some.inj h; subst j12; replace h := (osum_r hK2); intro _; obtain rfl := inj1 h; exact ca_0
      · intro _; refine dr ?_; refine aCd ?_; intro _; refine litT ?_; refine aSR ?_; intro _; obtain ⟨z13, u13, h⟩ := ob1_ok h; refine cl rfl (A_l32_awake g u13) ?_; intro _; refine dr ?_; refine aRt ?_; have j14 := Option.some.inj h; subst j14; replace h := (osum_r hK2); intro _; obtain rfl := inj1 h; exact ca_0
    · intro _; refine dr ?_; refine aCd ?_; intro _; refine litT ?_; refine aSR ?_; intro _; obtain ⟨z14, u15, h⟩ := ob1_ok h; refine cl rfl (A_l32_awake g u15) ?_; intro _; refine dr ?_; refine aRt ?_; have j16 := Option.some.inj h; subst j16; replace h := (osum_r hK2); intro _; obtain rfl := inj1 h; exact ca_0
  · rintro _ ho; have ho := ho.symm; subst ho; intro _; replace h := (osum_l hK2); refine aSR ?_; intro _; obtain ⟨z15, z16, u17, h⟩ := ob2_ok h; refine cl rfl (A_certify_Weaken g a0 a1 20000 u17) ?_; intro _; refine dr ?_; refine aSq ?_; refine aSR ?_; intro _; obtain ⟨z17, u18, h⟩ := ob1_ok h; refine cl rfl (A_checker_Verify g a0 a1 20000 u18) ?_; intro _; refine dr ?_; refine aSq ?_; rcases z17 with _ | e18
    · replace h := erM_nil h; refine aRg ?_; intro _; refine dr ?_; refine aCd ?_; intro _; refine litF ?_; refine aSk ?_; obtain ⟨o19, h, hK20⟩ := ob1_ok h; refine awp_cut (α := Unit) (fun _ => mkS 111 [(3, .ptr 3 0 0 0), (5, .ptr 5 0 0 0)] [(3, ⟨31, 2, true, [[.c (.int .i64 a1.Bound), .sl 2 (a1.Nogoods.map cN)]]⟩), (5, ⟨31, 2, true, [[.c (.int .i64 z15.Bound), .sl 2 (z15.Nogoods.map cN)]]⟩)]) (fun v => o19 = (.inl v)) ?_ ?_
      · refine aSq ?_; rcases z16 with _ | e24
        · replace h := erM_nil h; refine aRg ?_; intro _; refine litFf ?_; intro _; refine spf h (fun c21 h => ?_) (fun c21 h => ?_)
          · intro _; refine spf h (fun c22 h => ?_) (fun c22 h => ?_)
            · intro _; obtain ⟨z25, u23, h⟩ := ob1_ok h; refine cl rfl (A_checker_Verify g a0 z15 20000 u23) ?_; rcases z25 with _ | e26
              · replace h := erM_nil h; intro _; refine dr ?_; refine aCd ?_; intro _; refine litF ?_; refine aSk ?_; refine ⟨(), (Option.some.inj h).symm, ?_⟩; exact ca_0
              · replace h := erM_no h; intro _; refine dr ?_; refine aCd ?_; intro _; refine litT ?_; refine aSR ?_; intro _; refine dr ?_; refine aRt ?_; have j24 := Option.some.inj h; subst j24; replace h := (osum_r hK20); intro _; obtain rfl := inj1 h; exact ca_0
            · intro _; refine dr ?_; refine aCd ?_; intro _; refine litT ?_; refine aSR ?_; intro _; refine dr ?_; refine aRt ?_; have j25 := Option.some.inj h; subst j25; replace h := (osum_r hK20); intro _; obtain rfl := inj1 h; exact ca_0
          · intro _; refine dr ?_; refine aCd ?_; intro _; refine litT ?_; refine aSR ?_; intro _; refine dr ?_; refine aRt ?_; have j26 := Option.some.inj h; subst j26; replace h := (osum_r hK20); intro _; obtain rfl := inj1 h; exact ca_0
        · replace h := erM_no h; refine aRg ?_; intro _; refine litTf ?_; intro _; refine dr ?_; refine aCd ?_; intro _; refine litT ?_; refine aSR ?_; intro _; refine dr ?_; refine aRt ?_; have j27 := Option.some.inj h; subst j27; replace h := (osum_r hK20); intro _; obtain rfl := inj1 h; exact ca_0
      · rintro _ ho; have ho := ho.symm; subst ho; intro _; replace h := (osum_l hK20); refine aSq ?_; refine aSR ?_; intro _; refine dr ?_; refine aBk ?_; refine awp_loop (α := Nat × Int) (fun x => mkS 111 [(3, .ptr 3 0 0 0), (79, .sl 2 (z15.Nogoods.map cN)), (80, .c (.int .i64 ((z15.Nogoods.map cN).length : Int))), (81, .c (.int .i64 x.2))] [(3, ⟨31, 2, true, [[.c (.int .i64 a1.Bound), .sl 2 (a1.Nogoods.map cN)]]⟩)]) (fun x => M_l32_CertifyWeakens_L2 a1 z15 x.1 x.2 = some r1) (fun x => x.1) ((((z15.Nogoods.map cN).length : Int)).toNat + 1, 0) h ?_ ?_
        · exact ca_0
        · intro x28 h; intro _; obtain ⟨k133, m29, h⟩ := succ_of (f := fun n => M_l32_CertifyWeakens_L2 a1 z15 n x28.2) rfl h; replace h : M_l32_CertifyWeakens_L2 a1 z15 (k133 + 1) x28.2 = some r1 := h; rw [M_l32_CertifyWeakens_L2] at h; refine aSR ?_; intro _; refine dr ?_; refine aSq ?_; refine aCd ?_; intro _; refine spl h (fun c30 h => ?_) (fun c30 h => ?_)
          · refine aSk ?_; obtain ⟨o31, h, hK32⟩ := ob1_ok h; refine awp_cut (α := Unit) (fun _ => mkS 111 [(3, .ptr 3 0 0 0), (79, .sl 2 (z15.Nogoods.map cN)), (80, .c (.int .i64 ((z15.Nogoods.map cN).length : Int))), (81, .c (.int .i64 x28.2))] [(3, ⟨31, 2, true, [[.c (.int .i64 a1.Bound), .sl 2 (a1.Nogoods.map cN)]]⟩)]) (fun v => o31 = (.inl v)) ?_ ?_
            · refine aBk ?_; refine aSR ?_; intro _; obtain ⟨y161, w33, q34, h⟩ := ix_ok h; refine Exists.intro (cN y161) (And.intro (map_at' w33) ?_); intro _; refine pr ?_; refine dr ?_; refine aSR ?_; intro _; refine dr ?_; obtain ⟨o35, h, hK36⟩ := ob1_ok h; refine awp_cut (α := Bool) (fun v173 => mkS 111 [(3, .ptr 3 0 0 0), (10, .c (.bool v173)), (79, .sl 2 (z15.Nogoods.map cN)), (80, .c (.int .i64 ((z15.Nogoods.map cN).length : Int))), (81, .c (.int .i64 x28.2))] [(3, ⟨31, 2, true, [[.c (.int .i64 a1.Bound), .sl 2 (a1.Nogoods.map cN)]]⟩)]) (fun v => o35 = v) ?_ ?_
              · refine aSR ?_; intro _; refine dr ?_; refine aBk ?_; refine awp_loop (α := Nat × Bool × Int) (fun x => mkS 111 [(3, .ptr 3 0 0 0), (9, .ptr 9 0 0 0), (10, .c (.bool x.2.1)), (79, .sl 2 (z15.Nogoods.map cN)), (80, .c (.int .i64 ((z15.Nogoods.map cN).length : Int))), (81, .c (.int .i64 x28.2)), (86, .sl 2 (a1.Nogoods.map cN)), (87, .c (.int .i64 ((a1.Nogoods.map cN).length : Int))), (88, .c (.int .i64 x.2.2))] [(3, ⟨31, 2, true, [[.c (.int .i64 a1.Bound), .sl 2 (a1.Nogoods.map cN)]]⟩), (9, ⟨40, 2, true, [[.sl 2 (y161.1.map cF), .c (.int .i64 y161.2)]]⟩)]) (fun x => M_l32_CertifyWeakens_L1 a1 y161 x.1 x.2.1 x.2.2 = some o35) (fun x => x.1) ((((a1.Nogoods.map cN).length : Int)).toNat + 1, false, 0) h ?_ ?_
                · exact ca_0
                · intro x37 h; intro _; obtain ⟨k183, m38, h⟩ := succ_of (f := fun n => M_l32_CertifyWeakens_L1 a1 y161 n x37.2.1 x37.2.2) rfl h; replace h : M_l32_CertifyWeakens_L1 a1 y161 (k183 + 1) x37.2.1 x37.2.2 = some o35 := h; rw [M_l32_CertifyWeakens_L1] at h; refine aSR ?_; intro _; refine dr ?_; refine aSq ?_; refine aCd ?_; intro _; refine spl h (fun c39 h => ?_) (fun c39 h => ?_)
                  · refine aSk ?_; refine aSq ?_; refine aBk ?_; refine aSR ?_; intro _; obtain ⟨y184, w40, q41, h⟩ := ix_ok h; refine Exists.intro (cN y184) (And.intro (map_at' w40) ?_); intro _; refine pr ?_; refine dr ?_; refine aRg ?_; intro _; refine spf h (fun c42 h => ?_) (fun c42 h => ?_)
                    · intro _; refine spl h (fun c43 h => ?_) (fun c43 h => ?_)
                      · intro _; obtain ⟨z185, u44, h⟩ := ob1_ok h; refine cl rfl (A_p_Contains y184.1 y161.1 u44) ?_; intro _; refine dr ?_; refine aRg ?_; intro _; refine dr ?_; refine ⟨(k183, z185, (IntKind.i64.wrap (x37.2.2 + 1))), h, ltS m38, ?_⟩; exact ca_0
                      · intro _; refine dr ?_; refine aRg ?_; intro _; refine dr ?_; refine ⟨(k183, false, (IntKind.i64.wrap (x37.2.2 + 1))), h, ltS m38, ?_⟩; exact ca_0
                    · intro _; refine dr ?_; refine aRg ?_; intro _; refine dr ?_; refine ⟨(k183, true, (IntKind.i64.wrap (x37.2.2 + 1))), h, ltS m38, ?_⟩; exact ca_0
                  · refine aEx ?_; refine ⟨x37.2.1, (Option.some.inj h).symm, ?_⟩; exact ca_0
              · rintro v173 ho; have ho := ho.symm; subst ho; intro _; replace h := hK36; refine aSR ?_; intro _; refine dr ?_; refine aCd ?_; intro _; refine spl h (fun c45 h => ?_) (fun c45 h => ?_)
                · refine aSR ?_; intro _; refine dr ?_; refine aRt ?_; have j46 := Option.some.inj h; subst j46; replace h := (osum_r hK32); intro _; obtain rfl := inj1 h; exact ca_0
                · refine aSk ?_; refine ⟨(), (Option.some.inj h).symm, ?_⟩; exact ca_0
            · rintro _ ho; have ho := ho.symm; subst ho; intro _; replace h := (osum_l hK32); refine aRg ?_; intro _; refine dr ?_; refine ⟨(k133, (IntKind.i64.wrap (x28.2 + 1))), h, ltS m29, ?_⟩; exact ca_0
          · refine aEx ?_; refine aSR ?_; intro _; refine dr ?_; refine aRt ?_; intro _; obtain rfl := inj1 h; exact ca_0
    · replace h := erM_no h; refine aRg ?_; intro _; refine dr ?_; refine aCd ?_; intro _; refine litT ?_; refine aSR ?_; intro _; obtain ⟨z186, u47, h⟩ := ob1_ok h; refine cl rfl (A_b_Num z16 u47) ?_; intro _; obtain ⟨z187, u48, h⟩ := ob1_ok h; refine cl rfl (A_b_Num (Er.no e18) u48) ?_; intro _; refine spl h (fun c49 h => ?_) (fun c49 h => ?_)
      · intro _; obtain ⟨z188, u50, h⟩ := ob1_ok h; refine clb [] rfl rfl (A_l30_Same z15 ({ Bound := 0, Nogoods := [] : GCertificate }) u50) ?_; intro _; refine dr ?_; refine aRt ?_; intro _; obtain rfl := inj1 h; exact ca_0
      · intro _; refine dr ?_; refine aRt ?_; intro _; obtain rfl := inj1 h; exact ca_0
end Go.Proofs.YtohjegemooakpaaGreat.Am
/- Range loops of the models as recursions. -/
namespace Go.Proofs.YtohjegemooakpaaGreat.Am
def M_certify_copied_L1_B (_ : GCertificate) (_y10 : Nogood) (_ : Int) : ((List Nogood)) → (((List Nogood)) → Option (GCertificate)) → Option (GCertificate) := fun v8 rc => ixv _y10 (fun y10 =>
       ob1 (M_cloneF y10.1) (fun z11 =>
        grd ((v8.length + 1) * 32 ≤ 140737488355328) (grd (z11.length ≤ 140737488355328) (rc ((v8 ++ [(z11, y10.2)]))))))
def M_certify_copied_L1_E (a0 : GCertificate) : ((List Nogood)) → Option (GCertificate) := fun v8 => grd (v8.length ≤ 140737488355328) (some ({ Bound := a0.Bound, Nogoods := v8 : GCertificate }))
theorem M_certify_copied_L1_eq (a0 : GCertificate) (v8 : List Nogood) (hl : a0.Nogoods.length < 9223372036854775807) : M_certify_copied_L1 a0 (((a0.Nogoods.map cN).length : Int).toNat + 1) 0 v8 = Rg (M_certify_copied_L1_B a0) (M_certify_copied_L1_E a0) a0.Nogoods 0 v8 := rg_e1 (L := fun k i v8 => M_certify_copied_L1 a0 k i v8) hl (fun _ _ _ => rfl) v8
end Go.Proofs.YtohjegemooakpaaGreat.Am
/- Range loops of the models as recursions. -/
namespace Go.Proofs.YtohjegemooakpaaGreat.Am
def M_l30_Same_L1_B (a0 : GCertificate) (a1 : GCertificate) (_y16 : Nogood) (v14 : Int) : Unit → (Unit → Option (Bool)) → Option (Bool) := fun _ rc => ixv _y16 (fun y16 =>
       ix a1.Nogoods v14 (fun y17 =>
        sel (y16.2 != y17.2)
         (some false)
         (ix a0.Nogoods v14 (fun y18 =>
           ix a1.Nogoods v14 (fun y19 =>
            ob1 (M_b_Facts y18.1 y19.1) (fun z20 =>
             sel (!z20)
              (some false)
              (rc ())))))))
def M_l30_Same_L1_E (_ : GCertificate) (_ : GCertificate) : Unit → Option (Bool) := fun _ => some true
theorem M_l30_Same_L1_eq (a0 : GCertificate) (a1 : GCertificate)  (hl : a0.Nogoods.length < 9223372036854775807) : M_l30_Same_L1 a0 a1 (((a0.Nogoods.map cN).length : Int).toNat + 1) 0 = Rg (M_l30_Same_L1_B a0 a1) (M_l30_Same_L1_E a0 a1) a0.Nogoods 0 () := rg_e1 (L := fun k i _ => M_l30_Same_L1 a0 a1 k i) hl (fun _ _ _ => rfl) ()
def M_l32_CertifyWeakens_L1_B (_ : GCertificate) (y161 : Nogood) (_y184 : Nogood) (_ : Int) : ((Bool)) → (((Bool)) → Option (Bool)) → Option (Bool) := fun v181 rc => ixv _y184 (fun y184 =>
       sel v181
        (rc (true))
        (sel (y161.2 == y184.2)
          (ob1 (M_p_Contains y184.1 y161.1) (fun z185 =>
            rc (z185)))
          (rc (false))))
def M_l32_CertifyWeakens_L1_E (_ : GCertificate) (_ : Nogood) : ((Bool)) → Option (Bool) := fun v181 => some v181
theorem M_l32_CertifyWeakens_L1_eq (a1 : GCertificate) (y161 : Nogood) (v181 : Bool) (hl : a1.Nogoods.length < 9223372036854775807) : M_l32_CertifyWeakens_L1 a1 y161 (((a1.Nogoods.map cN).length : Int).toNat + 1) v181 0 = Rg (M_l32_CertifyWeakens_L1_B a1 y161) (M_l32_CertifyWeakens_L1_E a1 y161) a1.Nogoods 0 v181 := rg_e1 (L := fun k i v181 => M_l32_CertifyWeakens_L1 a1 y161 k v181 i) hl (fun _ _ _ => rfl) v181
def M_l32_CertifyWeakens_L2_B (a1 : GCertificate) (_ : GCertificate) (_y161 : Nogood) (_ : Int) : Unit → (Unit → Option (Bool)) → Option (Bool) := fun _ rc => ob1 (ixv _y161 (fun y161 =>
        ob1 (M_l32_CertifyWeakens_L1 a1 y161 ((((a1.Nogoods.map cN).length : Int)).toNat + 1) false 0 : Option (Bool))
         (fun v173 => sel (!v173)
            (some (.inr false))
            (some (.inl ())))) : Option (Unit ⊕ Bool))
       (osum
       (fun _ => rc ())
       (fun r159 => some r159))
def M_l32_CertifyWeakens_L2_E (_ : GCertificate) (_ : GCertificate) : Unit → Option (Bool) := fun _ => some true
theorem M_l32_CertifyWeakens_L2_eq (a1 : GCertificate) (z15 : GCertificate)  (hl : z15.Nogoods.length < 9223372036854775807) : M_l32_CertifyWeakens_L2 a1 z15 (((z15.Nogoods.map cN).length : Int).toNat + 1) 0 = Rg (M_l32_CertifyWeakens_L2_B a1 z15) (M_l32_CertifyWeakens_L2_E a1 z15) z15.Nogoods 0 () := rg_e2 (L := fun k i _ => M_l32_CertifyWeakens_L2 a1 z15 k i) hl (fun k n p y hy h1 h2 => by first | (simp only [M_l32_CertifyWeakens_L2, M_l32_CertifyWeakens_L2_B, List.length_map, decide_lt h1, sel, ix_at hy, ixv, h2]; done) | (simp only [List.length_map] at h1 hy; (simp only [M_l32_CertifyWeakens_L2, M_l32_CertifyWeakens_L2_B, List.length_map, decide_lt h1, sel, ix_at hy, ixv, h2]; done))) (fun k p => by simp only [M_l32_CertifyWeakens_L2, M_l32_CertifyWeakens_L2_E, List.length_map, decide_ge, sel]) ()
end Go.Proofs.YtohjegemooakpaaGreat.Am
/- Plain law: CertifyWeakens. -/
namespace Go.Proofs.YtohjegemooakpaaGreat.Am
open Go.RowKit
theorem awake100 : M_l32_awake 100 = some true := by kernel_rfl
theorem fit_eq (t : GTask) (ht : ShT t) : M_l32_fit t = some (fitF t) := by
  rw [M_l32_fit, tame_eq t ht, ob1_some, fitF]
  cases tameF t with
  | false => rfl
  | true =>
    rw [sel_tt, sel_dec, List.length_map, Bool.true_and]
    by_cases h : t.Ops.length ≤ 10
    · rw [if_pos (by omega), many_eq _ ht.vars 81 (by omega), ob1_some, decide_eq_true h, Bool.true_and]
    · rw [if_neg (by omega), decide_eq_false h, Bool.false_and]
theorem bfacts_loop (a b : List Fact) : ∀ (r s : List Fact) (n : Nat), a.drop n = r → b.drop n = s → r.length = s.length → Rg (M_b_Facts_L1_B a b) (M_b_Facts_L1_E a b) r n () = some (decide (r = s))
  | [], [], n, _, _, _ => by rw [Rg, M_b_Facts_L1_E, decide_eq_true rfl]
  | [], _ :: _, n, _, _, h => by cases h
  | _ :: _, [], n, _, _, h => by cases h
  | x :: r, y :: s, n, h1, h2, hl => by
    obtain ⟨hy, hd, -⟩ := drop_cons h2
    have ih := bfacts_loop a b r s (n + 1) (drop_cons h1).2.1 hd (by simpa using hl)
    rw [Rg, M_b_Facts_L1_B, ixv, ix_at hy, fact_beq]
    by_cases e : x = y
    · rw [decide_eq_true e, Bool.not_true, sel_ff]
      refine Eq.trans ih ?_
      subst e; simp
    · rw [decide_eq_false e, Bool.not_false, sel_tt, decide_eq_false]
      intro h; exact e (List.cons.inj h).1
theorem bfacts_eq (a b : List Fact) (ha : Sh a) : M_b_Facts a b = some (decide (a = b)) := by
  rw [M_b_Facts, List.length_map, List.length_map, bne_len]
  by_cases h : a.length = b.length
  · rw [decide_eq_false (by simp [h]), sel_ff]
    have e := M_b_Facts_L1_eq a b ha.lt
    rw [List.length_map] at e
    rw [e]
    exact bfacts_loop a b a b 0 rfl rfl h
  · rw [decide_eq_true h, sel_tt, decide_eq_false]
    rintro rfl; exact h rfl
theorem same_refl (c : GCertificate) (hl : c.Nogoods.length ≤ 1000) (hn : ∀ n ∈ c.Nogoods, n.1.length ≤ 1000) : M_l30_Same c c = some true := by
  have key : ∀ (r : List Nogood) (n : Nat), c.Nogoods.drop n = r → n ≤ c.Nogoods.length → Rg (M_l30_Same_L1_B c c) (M_l30_Same_L1_E c c) r n () = some true := by
    intro r
    induction r with
    | nil => intro n _ _; rfl
    | cons y r ih =>
      intro n hd hle
      obtain ⟨hy, hd', hlt⟩ := drop_cons hd
      have h1 := ih (n + 1) hd' (by omega)
      rw [show ((n + 1 : Nat) : Int) = (n : Int) + 1 from rfl] at h1
      have hm := hn y (List.mem_of_getElem? hy)
      rw [Rg, M_l30_Same_L1_B, ixv]
      simp only [ix_at hy]
      rw [show (y.2 != y.2) = false from by rw [bne_eq_false_iff_eq], sel_ff, bfacts_eq y.1 y.1 (by unfold Sh; omega), ob1_some, decide_eq_true rfl, Bool.not_true, sel_ff]
      exact h1
  rw [M_l30_Same, show (c.Bound != c.Bound) = false from by rw [bne_eq_false_iff_eq], sel_ff, show ((((c.Nogoods.map cN).length : Nat) : Int) != (((c.Nogoods.map cN).length : Nat) : Int)) = false from by rw [bne_eq_false_iff_eq], sel_ff, ob1_some, osum_inl, M_l30_Same_L1_eq c c (by omega)]
  exact key c.Nogoods 0 (List.drop_zero ..) (Nat.zero_le _)
theorem copied_eq (c : GCertificate) (hl : c.Nogoods.length ≤ 4096) (hn : ∀ n ∈ c.Nogoods, n.1.length ≤ 64) : M_certify_copied c = some c := by
  have key : ∀ (r : List Nogood) (i : Int) (v : List Nogood), (∀ n ∈ r, n.1.length ≤ 64) → v.length + r.length ≤ 100000 → Rg (M_certify_copied_L1_B c) (M_certify_copied_L1_E c) r i v = some { Bound := c.Bound, Nogoods := v ++ r } := by
    intro r
    induction r with
    | nil => intro i v _ h; rw [Rg, M_certify_copied_L1_E, grd_t (by simp at h; omega), List.append_nil]
    | cons n r ih =>
      intro i v hr h
      rw [List.length_cons] at h
      have hn := hr n (List.mem_cons_self ..)
      rw [Rg, M_certify_copied_L1_B, ixv, M_cloneF, grd_t (by omega), ob1_some, grd_t (by omega), grd_t (by omega), ih _ _ (fun m hm => hr m (List.mem_cons_of_mem _ hm)) (by simp; omega), List.append_assoc]
      rfl
  rw [M_certify_copied, M_certify_copied_L1_eq c [] (by omega), key c.Nogoods 0 [] hn (by simp; omega), List.nil_append]
theorem frm_len {p : List Fact} (h : frmF p = true) : p.length ≤ 64 := by
  unfold frmF at h
  rw [Bool.and_eq_true] at h
  obtain ⟨h1, h2⟩ := (vF_iff p (-1)).1 h.1
  have h3 : ∀ x ∈ p, x.1 < 64 := fun x hx => by
    have := h.2
    unfold limF at this
    rw [List.all_eq_true] at this
    exact (of_decide_eq_true (this x hx)).1
  have key : ∀ (l : List Fact) (k : Int), Asc l → (∀ x ∈ l, k < x.1 ∧ x.1 < 64) → k < 64 → (l.length : Int) ≤ 63 - k := by
    intro l
    induction l with
    | nil => intro k _ _ hk; simp; omega
    | cons y r ih =>
      intro k ha hx hk
      have hy := hx y (List.mem_cons_self ..)
      obtain ⟨a1, a2⟩ := List.pairwise_cons.1 ha
      have := ih y.1 a2 (fun x hx2 => ⟨a1 x hx2, (hx x (List.mem_cons_of_mem _ hx2)).2⟩) hy.2
      rw [List.length_cons]
      omega
  have := key p (-1) h2 (fun x hx => ⟨(h1 x hx).1, h3 x hx⟩) (by decide)
  omega

structure WkI (t : GTask) (c0 c : GCertificate) : Prop where
  bd : c.Bound = c0.Bound
  len : c.Nogoods.length ≤ c0.Nogoods.length
  ok : verF t c 20000 = .nil
  sub : ∀ n ∈ c.Nogoods, ∃ m ∈ c0.Nogoods, n.2 = m.2 ∧ n.1.Sublist m.1
theorem ver_sz {t : GTask} {c : GCertificate} (h : verF t c 20000 = .nil) : c.Nogoods.length ≤ 4096 ∧ ∀ n ∈ c.Nogoods, n.1.length ≤ 64 := by
  obtain ⟨_, p, _⟩ := ver_acc h
  exact ⟨p.len, fun n hn => frm_len (p.frm n hn)⟩
theorem sz_sh {c : GCertificate} (h : c.Nogoods.length ≤ 4096 ∧ ∀ n ∈ c.Nogoods, n.1.length ≤ 64) : ShC c := ⟨by show _ ≤ _; omega, fun n hn => by have := h.2 n hn; show _ ≤ _; omega⟩
theorem set_sz {c : GCertificate} {i : Nat} {n' : Nogood} (h : c.Nogoods.length ≤ 4096 ∧ ∀ n ∈ c.Nogoods, n.1.length ≤ 64) (hn : n'.1.length ≤ 64) : (c.Nogoods.set i n').length ≤ 4096 ∧ ∀ n ∈ c.Nogoods.set i n', n.1.length ≤ 64 := by
  refine ⟨by rw [List.length_set]; exact h.1, fun n hm => ?_⟩
  rcases List.mem_or_eq_of_mem_set hm with h1 | h1
  · exact h.2 n h1
  · rw [h1]; exact hn
theorem wk1 (t : GTask) (ht : ShT t) (c0 : GCertificate) (i : Nat) : ∀ (q fuel k : Nat) (c : GCertificate) (y : Nogood), WkI t c0 c → c.Nogoods[i]? = some y → k + q = y.1.length → q < fuel → ∃ c', WkI t c0 c' ∧ c'.Nogoods.length = c.Nogoods.length ∧ M_certify_Weaken_L1 t 20000 100 (i : Int) fuel (k : Int) c.Bound c.Nogoods = some (c'.Bound, c'.Nogoods)
  | q, 0, k, c, y, _, _, _, hf => by omega
  | q, fuel + 1, k, c, y, hI, hy, hk, hf => by
    have hsz := ver_sz hI.ok
    have hyl := hsz.2 y (List.mem_of_getElem? hy)
    have hil := (List.getElem?_eq_some_iff.1 hy).1
    rw [M_certify_Weaken_L1, ix_at hy, List.length_map, sel_dec]
    by_cases hlt : (k : Int) < (y.1.length : Int)
    · rw [if_pos hlt]
      show ∃ c', _ ∧ _ ∧ ob1 (M_certify_copied c) _ = _
      rw [copied_eq c hsz.1 hsz.2, ob1_some, Int.toNat_natCast, ixn_at hy, w64s (by omega), M_delF, grd_t (by omega), grd_t (by omega), grd_t hlt, grd_t (by omega), ob1_some, Int.toNat_natCast, ixn_at hy, grd_t (by omega), grd_t (by omega)]
      have hs2 := set_sz (i := i) (n' := (y.1.eraseIdx k, y.2)) hsz (Nat.le_trans (List.length_eraseIdx_le _ _) hyl)
      rw [verify_eq t ht _ (sz_sh (c := { Bound := c.Bound, Nogoods := c.Nogoods.set i (y.1.eraseIdx k, y.2) }) hs2) 20000 100 (by decide), ob1_some]
      cases hv : verF t { Bound := c.Bound, Nogoods := c.Nogoods.set i (y.1.eraseIdx k, y.2) } 20000 with
      | nil =>
        have hI' : WkI t c0 { Bound := c.Bound, Nogoods := c.Nogoods.set i (y.1.eraseIdx k, y.2) } := ⟨hI.bd, by show (c.Nogoods.set _ _).length ≤ _; rw [List.length_set]; exact hI.len, hv, fun n hn => by
          rcases List.mem_or_eq_of_mem_set hn with h1 | h1
          · exact hI.sub n h1
          · obtain ⟨m, m1, m2, m3⟩ := hI.sub y (List.mem_of_getElem? hy)
            subst h1
            exact ⟨m, m1, m2, (List.eraseIdx_sublist _ _).trans m3⟩⟩
        obtain ⟨q', rfl⟩ : ∃ q', q = q' + 1 := ⟨q - 1, by omega⟩
        obtain ⟨c', h1, h2, h3⟩ := wk1 t ht c0 i q' fuel k { Bound := c.Bound, Nogoods := c.Nogoods.set i (y.1.eraseIdx k, y.2) } (y.1.eraseIdx k, y.2) hI' (List.getElem?_set_self hil) (by
          show k + q' = (y.1.eraseIdx k).length
          rw [List.length_eraseIdx_of_lt (by omega)]; omega) (by omega)
        exact ⟨c', h1, by rw [h2]; exact List.length_set, h3⟩
      | no e =>
        obtain ⟨q', rfl⟩ : ∃ q', q = q' + 1 := ⟨q - 1, by omega⟩
        exact wk1 t ht c0 i q' fuel (k + 1) c y hI hy (by omega) (by omega)
    · rw [if_neg hlt]
      exact ⟨c, hI, rfl, rfl⟩
theorem wk2 (t : GTask) (ht : ShT t) (c0 z : GCertificate) (hz : z.Nogoods.length ≤ 4096) : ∀ (q i : Nat) (c : GCertificate), WkI t c0 c → c.Nogoods.length = z.Nogoods.length → i + q = z.Nogoods.length → ∃ c', WkI t c0 c' ∧ M_certify_Weaken_L2 t 20000 100 z (q + 1) (i : Int) c.Bound c.Nogoods = some (c'.Bound, c'.Nogoods)
  | 0, i, c, hI, hl, hi => by
    rw [M_certify_Weaken_L2, sel_dec, if_neg (by omega)]
    exact ⟨c, hI, rfl⟩
  | q + 1, i, c, hI, hl, hi => by
    have hy := List.getElem?_eq_getElem (show i < c.Nogoods.length by omega)
    have hsz := (ver_sz hI.ok).2 _ (List.mem_of_getElem? hy)
    obtain ⟨c', h1, h2, h3⟩ := wk1 t ht c0 i _ 100 0 c _ hI hy (Nat.zero_add _) (by omega)
    rw [M_certify_Weaken_L2, sel_dec, if_pos (by omega)]
    have h3' : M_certify_Weaken_L1 t 20000 100 (i : Int) 100 0 c.Bound c.Nogoods = some (c'.Bound, c'.Nogoods) := h3
    rw [h3', ob1_some, w64s (by omega)]
    exact wk2 t ht c0 z hz q (i + 1) c' h1 (by omega) (by omega)
theorem wk3 (t : GTask) (ht : ShT t) (c0 : GCertificate) : ∀ (q fuel i : Nat) (c : GCertificate), WkI t c0 c → i + q = c.Nogoods.length → q < fuel → ∃ c', WkI t c0 c' ∧ M_certify_Weaken_L3 t 20000 100 fuel (i : Int) c.Bound c.Nogoods = some (c', .nil)
  | q, 0, i, c, _, _, hf => by omega
  | q, fuel + 1, i, c, hI, hi, hf => by
    have hsz := ver_sz hI.ok
    rw [M_certify_Weaken_L3, List.length_map, sel_dec]
    by_cases hlt : (i : Int) < (c.Nogoods.length : Int)
    · rw [if_pos hlt]
      show ∃ c', _ ∧ ob1 (M_certify_copied c) _ = _
      have hel : (c.Nogoods.eraseIdx i).length ≤ c.Nogoods.length := List.length_eraseIdx_le _ _
      have hem : ∀ n ∈ c.Nogoods.eraseIdx i, n ∈ c.Nogoods := fun n hn => (List.eraseIdx_sublist _ _).subset hn
      rw [copied_eq c hsz.1 hsz.2, ob1_some, w64s (by omega), M_delN, grd_t (by omega), grd_t (by omega), grd_t hlt, grd_t (by omega), ob1_some, Int.toNat_natCast, grd_t (by omega), verify_eq t ht _ (sz_sh (c := { Bound := c.Bound, Nogoods := c.Nogoods.eraseIdx i }) ⟨by show (c.Nogoods.eraseIdx i).length ≤ 4096; omega, fun n hn => hsz.2 n (hem n hn)⟩) 20000 100 (by decide), ob1_some]
      obtain ⟨q', rfl⟩ : ∃ q', q = q' + 1 := ⟨q - 1, by omega⟩
      cases hv : verF t { Bound := c.Bound, Nogoods := c.Nogoods.eraseIdx i } 20000 with
      | nil =>
        exact wk3 t ht c0 q' fuel i { Bound := c.Bound, Nogoods := c.Nogoods.eraseIdx i } ⟨hI.bd, Nat.le_trans hel hI.len, hv, fun n hn => hI.sub n (hem n hn)⟩ (by
          show i + q' = (c.Nogoods.eraseIdx i).length
          rw [List.length_eraseIdx_of_lt (by omega)]; omega) (by omega)
      | no e => exact wk3 t ht c0 q' fuel (i + 1) c hI (by omega) (by omega)
    · rw [if_neg hlt]
      exact ⟨c, hI, rfl⟩
theorem weaken_eq (t : GTask) (ht : ShT t) (c : GCertificate) (hc : ShC c) (hl : c.Nogoods.length ≤ 10) : (∃ e, verF t c 20000 = .no e ∧ M_certify_Weaken 100 t c 20000 = some ({ Bound := 0, Nogoods := [] }, .no e)) ∨ (verF t c 20000 = .nil ∧ ∃ c', WkI t c c' ∧ M_certify_Weaken 100 t c 20000 = some (c', .nil)) := by
  rw [M_certify_Weaken, verify_eq t ht c hc 20000 100 (by decide), ob1_some]
  cases hv : verF t c 20000 with
  | no e => exact .inl ⟨e, rfl, rfl⟩
  | nil =>
    refine .inr ⟨rfl, ?_⟩
    have hsz := ver_sz hv
    obtain ⟨c1, h1, h2⟩ := wk2 t ht c c hsz.1 c.Nogoods.length 0 c ⟨rfl, Nat.le_refl _, hv, fun n hn => ⟨n, hn, rfl, List.Sublist.refl _⟩⟩ rfl (by omega)
    obtain ⟨c2, h3, h4⟩ := wk3 t ht c c1.Nogoods.length 100 0 c1 h1 (by omega) (by have := h1.len; omega)
    refine ⟨c2, h3, ?_⟩
    show ob1 (M_certify_copied c) _ = _
    rw [copied_eq c hsz.1 hsz.2, ob1_some, grd_t (by omega), Int.toNat_natCast]
    have h2' : M_certify_Weaken_L2 t 20000 100 c (c.Nogoods.length + 1) 0 c.Bound c.Nogoods = some (c1.Bound, c1.Nogoods) := h2
    rw [h2', ob1_some]
    exact h4
theorem wk_in (c : GCertificate) (hl : c.Nogoods.length ≤ 4096) (hs : ∀ m ∈ c.Nogoods, Sh m.1 ∧ vF (-1) m.1 = true) (y : Nogood) (hy : Sh y.1 ∧ vF (-1) y.1 = true) (hex : ∃ m ∈ c.Nogoods, y.2 = m.2 ∧ y.1.Sublist m.1) : M_l32_CertifyWeakens_L1 c y ((((c.Nogoods.map cN).length : Int)).toNat + 1) false 0 = some true := by
  have key : ∀ (r : List Nogood) (i : Int) (v : Bool), (∀ m ∈ r, m ∈ c.Nogoods) → (v = true ∨ ∃ m ∈ r, y.2 = m.2 ∧ y.1.Sublist m.1) → Rg (M_l32_CertifyWeakens_L1_B c y) (M_l32_CertifyWeakens_L1_E c y) r i v = some true := by
    intro r
    induction r with
    | nil =>
      intro i v _ h
      rcases h with h | ⟨m, hm, _⟩
      · subst h; rfl
      · cases hm
    | cons n r ih =>
      intro i v hr h
      have hr' : ∀ m ∈ r, m ∈ c.Nogoods := fun m hm => hr m (List.mem_cons_of_mem _ hm)
      rw [Rg, M_l32_CertifyWeakens_L1_B, ixv]
      cases v with
      | true => rw [sel_tt]; exact ih _ true hr' (.inl rfl)
      | false =>
        rw [sel_ff]
        have hn := hs n (hr n (List.mem_cons_self ..))
        by_cases he : y.2 = n.2
        · rw [show (y.2 == n.2) = true from beq_iff_eq.2 he, sel_tt, pcont_eq n.1 y.1 hn.1 hy.1 hn.2 hy.2, ob1_some]
          refine ih _ _ hr' ?_
          rcases h with h | ⟨m, hm, h1, h2⟩
          · cases h
          · rcases List.mem_cons.1 hm with e | hm
            · subst e; exact .inl (subF_iff.2 fun f hf => h2.subset hf)
            · exact .inr ⟨m, hm, h1, h2⟩
        · rw [show (y.2 == n.2) = false from beq_eq_false_iff_ne.2 he, sel_ff]
          refine ih _ _ hr' ?_
          rcases h with h | ⟨m, hm, h1, h2⟩
          · cases h
          · rcases List.mem_cons.1 hm with e | hm
            · subst e; exact absurd h1 he
            · exact .inr ⟨m, hm, h1, h2⟩
  rw [M_l32_CertifyWeakens_L1_eq c y false (by omega)]
  refine key c.Nogoods 0 false (fun _ h => h) (.inr hex)
theorem wk_all (c c' : GCertificate) (hl : c.Nogoods.length ≤ 4096) (hl' : c'.Nogoods.length ≤ 4096) (hs : ∀ m ∈ c.Nogoods, Sh m.1 ∧ vF (-1) m.1 = true) (hs' : ∀ m ∈ c'.Nogoods, Sh m.1 ∧ vF (-1) m.1 = true) (hex : ∀ y ∈ c'.Nogoods, ∃ m ∈ c.Nogoods, y.2 = m.2 ∧ y.1.Sublist m.1) : M_l32_CertifyWeakens_L2 c c' ((((c'.Nogoods.map cN).length : Int)).toNat + 1) 0 = some true := by
  have key : ∀ (r : List Nogood) (i : Int), (∀ m ∈ r, m ∈ c'.Nogoods) → Rg (M_l32_CertifyWeakens_L2_B c c') (M_l32_CertifyWeakens_L2_E c c') r i () = some true := by
    intro r
    induction r with
    | nil => intro i _; rfl
    | cons n r ih =>
      intro i hr
      have hn := hr n (List.mem_cons_self ..)
      rw [Rg, M_l32_CertifyWeakens_L2_B, ixv, wk_in c hl hs n (hs' n hn) (hex n hn), ob1_some, Bool.not_true, sel_ff, ob1_some, osum_inl]
      exact ih _ (fun m hm => hr m (List.mem_cons_of_mem _ hm))
  rw [M_l32_CertifyWeakens_L2_eq c c' (by omega)]
  exact key c'.Nogoods 0 (fun _ h => h)
theorem acc_sh {t : GTask} {c : GCertificate} (h : verF t c 20000 = .nil) : ∀ m ∈ c.Nogoods, Sh m.1 ∧ vF (-1) m.1 = true := by
  intro m hm
  have h1 := (ver_sz h).2 m hm
  obtain ⟨_, p, _⟩ := ver_acc h
  have h2 := p.frm m hm
  unfold frmF at h2
  rw [Bool.and_eq_true] at h2
  exact ⟨by unfold Sh; omega, h2.1⟩
theorem erM_k {α : Type} {z : Int} {x : Option α} {k : Int → Option α} : erM (.no z) x k = k z := rfl
theorem weakens_true (t : GTask) (ht : ShT t) (c : GCertificate) (hc : ShC c) : M_l32_CertifyWeakens 100 t c = some true := by
  rw [M_l32_CertifyWeakens, awake100, fit_eq t ht, ob1_some]
  cases hfit : fitF t with
  | false => rfl
  | true =>
    rw [Bool.not_true, sel_ff, sel_dec, List.length_map, List.length_map, sel_dec]
    by_cases h6 : (t.Ops.length : Int) > 6
    · rw [if_pos h6]; rfl
    · rw [if_neg h6]
      by_cases h10 : (c.Nogoods.length : Int) > 10
      · rw [if_pos h10]; rfl
      · rw [if_neg h10, ob1_some, Bool.not_true, sel_ff, ob1_some, osum_inl]
        rcases weaken_eq t ht c hc (by omega) with ⟨e, hv, hw⟩ | ⟨hv, c', hI, hw⟩
        · rw [hw, ob2_some, verify_eq t ht c hc 20000 100 (by decide), ob1_some, hv]
          rw [erM_k, num_no, ob1_some, ob1_some, beq_self_eq_true, sel_tt, same_refl _ (by simp) (fun n hn => by cases hn)]
          rfl
        · rw [hw, ob2_some, verify_eq t ht c hc 20000 100 (by decide), ob1_some, hv]
          have hsz := ver_sz hI.ok
          have hlen := hI.len
          have g1 : (c'.Bound != c.Bound) = false := by rw [bne_eq_false_iff_eq]; exact hI.bd
          have g2 : decide (((c'.Nogoods.map cN).length : Int) > (c.Nogoods.length : Int)) = false := decide_eq_false (by rw [List.length_map]; omega)
          show ob1 (sel (c'.Bound != c.Bound) (some (.inr false)) (sel (decide (((c'.Nogoods.map cN).length : Int) > (c.Nogoods.length : Int))) (some (.inr false)) (ob1 (M_checker_Verify 100 t c' 20000) (fun z25 => erM z25 (some (.inl ())) (fun _ => some (.inr false))))) : Option (Unit ⊕ Bool)) _ = _
          rw [g1, sel_ff, g2, sel_ff, verify_eq t ht c' (sz_sh hsz) 20000 100 (by decide), ob1_some, hI.ok]
          exact wk_all c c' (by omega) hsz.1 (acc_sh hv) (acc_sh hI.ok) hI.sub
end Go.Proofs.YtohjegemooakpaaGreat.Am
/- Opening arguments: slices of numbers, of facts, of nogoods, a certificate. -/
namespace Go.Proofs.YtohjegemooakpaaGreat
open Go.RowKit Go.ChangeShapes Go.WideShapes Go.Deep Go.Joins

def I64 (x : Int) : Prop := -9223372036854775808 ≤ x ∧ x ≤ 9223372036854775807
theorem I64.of {x : Int} (h : (Lit.int .i64 x).wf = true) : I64 x := by
  have := bounds_i64 h
  exact this

section
variable {H : Type} {enc : TypeId × Value → H} {P : Program} {w : World} {base : Nat} {spare : Nat → Bool} {held : Bool}

/-- within the form's reach -/
def Sized (P : Program) (t : TypeId) (d : DataW H) : Prop := ∀ n ∈ d.weights P t, n ≤ reachBytes
theorem sized_arg {ts : List TypeId} {ds : List (DataW H)} (h : (DataW.weightsEach P ts ds).all (· ≤ reachBytes) = true) {j : Nat} {t : TypeId} {d : DataW H} (ht : ts[j]? = some t) (hd : ds[j]? = some d) : Sized P t d :=
  fun n hn => of_decide_eq_true (List.all_eq_true.1 h n (DataW.weights_mem_each ht hd n hn))
theorem sized_field {t : TypeId} {fs : Array Field} {parts : List (DataW H)} (h : Sized P t (.agg parts)) (hu : P.underlying t = some (.struct fs)) {j : Nat} {f : Field} {d : DataW H} (hf : fs[j]? = some f) (hd : parts[j]? = some d) : Sized P f.type d :=
  fun n hn => h n (by
    simp only [DataW.weights, hu]
    exact DataW.weights_mem_each (j := j) (by simp [List.getElem?_map, hf]) hd n hn)
theorem weightsAll_mem {e : TypeId} : ∀ {l : List (DataW H)} {d : DataW H}, d ∈ l → ∀ n ∈ d.weights P e, n ∈ DataW.weightsAll P e l
  | x :: l, d, hd, n, hn => by
    simp only [DataW.weightsAll, List.mem_append]
    rcases List.mem_cons.1 hd with rfl | h
    · exact Or.inl hn
    · exact Or.inr (weightsAll_mem h n hn)
theorem sized_elem {t e : TypeId} {elems sp : List (DataW H)} (h : Sized P t (.slice elems sp)) (hu : P.underlying t = some (.slice e)) {d : DataW H} (hd : d ∈ elems) : Sized P e d :=
  fun n hn => h n (by
    simp only [DataW.weights, hu, List.mem_cons, List.mem_append]
    exact Or.inr (Or.inl (weightsAll_mem hd n hn)))
theorem sized_len {t e : TypeId} {elems sp : List (DataW H)} (h : Sized P t (.slice elems sp)) (hu : P.underlying t = some (.slice e)) : elems.length * P.bytesOf e ≤ 140737488355328 := by
  have h1 := h ((elems.length + sp.length) * P.bytesOf e) (by simp [DataW.weights, hu])
  have h2 : elems.length * P.bytesOf e ≤ (elems.length + sp.length) * P.bytesOf e := Nat.mul_le_mul_right _ (by omega)
  have h3 : reachBytes ≤ 140737488355328 := by decide
  omega

end

theorem spot_of_cell {w : World} {p : Addr} {v : Value} (h : w.cell? p = some v) : p.spot = none := by
  unfold World.cell? at h
  split at h
  · split at h
    · cases h
    · rename_i hs; simpa using hs
  · cases h
theorem addr_of_cell {w : World} {a : Addr} {k : Nat} {v : Value} (h0 : ∃ u, w.cell? (a.add 0) = some u) (h : w.cell? (a.add k) = some v) : a = ⟨a.block, a.off, none⟩ ∧ w.cell? ⟨a.block, a.off + k, none⟩ = some v := by
  obtain ⟨u, hu⟩ := h0
  have hs := spot_of_cell hu
  obtain ⟨b, off, sp⟩ := a
  simp [Addr.add] at hs
  subst hs
  refine ⟨rfl, ?_⟩
  rw [← h]
  congr 1
  unfold Addr.add
  split
  · subst k; rfl
  · rfl

theorem list_of {α : Type} (n : Nat) (R : Nat → α → Prop) (h : ∀ i, i < n → ∃ x, R i x) : ∃ l : List α, l.length = n ∧ ∀ k x, l[k]? = some x → R k x := by
  induction n with
  | zero => exact ⟨[], rfl, fun k x hx => by simp at hx⟩
  | succ n ih =>
    obtain ⟨l, hl, hr⟩ := ih (fun i hi => h i (by omega))
    obtain ⟨x, hx⟩ := h n (by omega)
    refine ⟨l ++ [x], by simp [hl], fun k y hy => ?_⟩
    by_cases hk : k < n
    · rw [List.getElem?_append_left (by omega)] at hy
      exact hr k y hy
    · rw [List.getElem?_append_right (by omega)] at hy
      have hk' : k - l.length = 0 := by
        have := (List.getElem?_eq_some_iff.1 hy).1
        simp at this
        omega
      rw [hk'] at hy
      simp at hy
      subst hy
      obtain rfl : k = n := by omega
      exact hx

variable {H : Type} {enc : TypeId × Value → H} {w : World} {base : Nat} {spare : Nat → Bool} {held : Bool}
end Go.Proofs.YtohjegemooakpaaGreat
/- Opening arguments for the abstract machine: readers that compose. -/
namespace Go.Proofs.YtohjegemooakpaaGreat.Am
open Go.RowKit Go.ChangeShapes Go.WideShapes Go.Deep Go.Joins

/-- nothing is owned at the start -/
abbrev mZ : MM := mO (fun _ => False)
theorem noZ (b : Nat) : ¬ Owned nov mZ b := fun h => owned_nov.1 h

section
variable {H : Type} {enc : TypeId × Value → H} {P : Program} {w : World} {base : Nat} {spare : Nat → Bool} {held : Bool}
/-- cells that stand for the values -/
def CellsRv (w : World) (es : List AV) (cs : List Value) : Prop := es.length = cs.length ∧ (∀ (j : Nat) (y : AV) (u : Value), es[j]? = some y → cs[j]? = some u → RV w nov mZ y u ∧ u.oneCell' = true) ∧ ∀ y ∈ es, Fr y
/-- data of type t read as an α -/
def Opens (enc : TypeId × Value → H) (P : Program) (w : World) (base : Nat) (spare : Nat → Bool) (held : Bool) (t : TypeId) {α : Type} (en : α → List AV) (R : α → Prop) : Prop :=
  ∀ (fuel : Nat) (cs : List Value) (x : DataW H × List MemPlace), DataW.trod enc P w base spare held fuel t cs = some x → Sized P t x.1 → ∃ a, R a ∧ CellsRv w (en a) cs

theorem cells_one1 {y : AV} {u : Value} (h : RV w nov mZ y u) (h1 : u.oneCell' = true) (hf : Fr y) : CellsRv w [y] [u] := by
  refine ⟨rfl, fun j z v hz hv => ?_, fun z hz => by simp at hz; subst hz; exact hf⟩
  cases j with
  | zero => simp at hz hv; subst hz hv; exact ⟨h, h1⟩
  | succ j => simp at hz
theorem opens_int {t : TypeId} {k : IntKind} (ht : P.underlying t = some (.int k)) : Opens enc P w base spare held t (fun z : Int => [.c (.int k z)]) (fun z => (Lit.int k z).wf = true) := by
  intro fuel cs x h _
  obtain ⟨z, rfl, _, wz⟩ := DataW.trod_int ht h
  exact ⟨z, wz, cells_one1 (.c _) rfl (.c _)⟩
theorem opens_slice {t e : TypeId} {α : Type} {en : α → List AV} {R : α → Prop} {sz by_ : Nat} (ht : P.underlying t = some (.slice e)) (hc : P.cellsOf e = sz) (hb : P.bytesOf e = by_) (hby : 0 < by_) (hsz : 0 < sz) (he : Opens enc P w base spare held e en R) :
    Opens enc P w base spare held t (fun l : List α => [.sl sz (l.map en)]) (fun l => l.length * by_ ≤ 140737488355328 ∧ ∀ x ∈ l, R x) := by
  intro fuel cs x h hs
  rcases open_slice ht h with ⟨rfl, _⟩ | ⟨a, len, cap, m, n, D, Pl, rfl, _, hl, hm, hmm, rfl, hi⟩
  · refine ⟨[], ⟨by simp, by simp⟩, cells_one1 ?_ rfl (.sl (fun e he => by cases he))⟩
    exact RV.sl (l := []) (b := 0) (off := 0) (f := fun _ _ => undef) (fun h => absurd rfl h) (Nat.zero_le _) (by simp) (fun k e h => by simp at h) (fun k j e x h => by simp at h) (fun k j e x h => by simp at h) (fun e he => by cases he)
  · have hlen := sized_len hs ht
    rw [hb] at hlen
    simp only [List.length_map, List.length_range] at hlen
    have hml : len ≤ m := by rw [hmm]; split <;> omega
    have hcell : ∀ i, i < len → ∃ z : α, R z ∧ ∃ cs', CellsRv w (en z) cs' ∧ cs'.length = sz ∧ ∀ j, j < sz → w.cell? (a.add (i * sz + j)) = cs'[j]? := by
      intro i hi'
      obtain ⟨cs', hcc, ht'⟩ := hi i (by omega)
      rw [hc] at hcc
      obtain ⟨z, hz, hcr⟩ := he n cs' _ ht' (sized_elem hs ht (List.mem_map.2 ⟨i, by simpa using hi', rfl⟩))
      obtain ⟨_, hcl', hat⟩ := World.cells?_some hcc
      exact ⟨z, hz, cs', hcr, hcl', fun j hj => by rw [← hat j hj, Go.Deep.add_add]⟩
    obtain ⟨l, hl', hat⟩ := list_of len _ hcell
    have hR : ∀ x ∈ l, R x := fun x hx => by
      obtain ⟨k, hk⟩ := List.getElem?_of_mem hx
      exact (hat k x hk).1
    have hfr : FrL (l.map en) := by
      intro e he
      obtain ⟨x, hx, rfl⟩ := List.mem_map.1 he
      obtain ⟨k, hk⟩ := List.getElem?_of_mem hx
      obtain ⟨_, cs', hcr, _⟩ := hat k x hk
      exact hcr.2.2
    refine ⟨l, ⟨by rw [hl']; exact hlen, hR⟩, cells_one1 ?_ rfl (.sl hfr)⟩
    have key : ∀ (k j : Nat) (e : List AV) (y : AV), (l.map en)[k]? = some e → e[j]? = some y → e.length = sz ∧ ∃ u, w.cell? ⟨a.block, a.off + (k * sz + j), none⟩ = some u ∧ u.oneCell' = true ∧ RV w nov mZ y u ∧ a = ⟨a.block, a.off, none⟩ ∧ a.block < w.heap.size := by
      intro k j e y hk hj
      rw [List.getElem?_map] at hk
      cases hx : l[k]? with
      | none => rw [hx] at hk; cases hk
      | some z =>
        rw [hx] at hk
        simp at hk
        subst hk
        obtain ⟨_, cs', ⟨c1, c2, _⟩, c4, c5⟩ := hat k z hx
        have hjl : j < sz := by rw [← c4, ← c1]; exact (List.getElem?_eq_some_iff.1 hj).1
        have hcj := c5 j hjl
        have hget : cs'[j]? = some (cs'[j]'(by omega)) := List.getElem?_eq_getElem _
        rw [hget] at hcj
        obtain ⟨r1, r2⟩ := c2 j y _ hj hget
        have h0 : 0 < len := by have := (List.getElem?_eq_some_iff.1 hx).1; omega
        obtain ⟨_, _, cs0, ⟨_, _, _⟩, d4, d5⟩ := hcell 0 h0
        have hz0 := d5 0 hsz
        rw [List.getElem?_eq_getElem (by omega)] at hz0
        obtain ⟨e1, e2⟩ := addr_of_cell ⟨_, by simpa using hz0⟩ hcj
        exact ⟨by rw [c1, c4], _, e2, r2, r1, e1, lt_of_cell (p := ⟨a.block, a.off + (k * sz + j), none⟩) e2⟩
    have hlen2 : (l.map en).length = len := by simp [hl']
    have := RV.sl (w := w) (vs := nov) (m := mZ) (sz := sz) (l := l.map en) (A := some a) (cap := cap) (b := a.block) (off := a.off) (f := fun k j => (w.cell? ⟨a.block, a.off + (k * sz + j), none⟩).getD undef)
      (fun hne => ?_) (by omega) (by rw [hlen2]; exact Nat.le_trans (Nat.le_mul_of_pos_right _ hby) hlen) (fun k e hk => ?_) (fun k j e y hk hj => ?_) (fun k j e y hk hj => ?_) hfr
    · rw [hlen2] at this
      exact this
    · have h0 : 0 < (l.map en).length := List.length_pos_iff.2 hne
      have hk := List.getElem?_eq_getElem h0
      obtain ⟨x0, hx0, hx0'⟩ : ∃ x0, l[0]? = some x0 ∧ (l.map en)[0] = en x0 := by
        have h1 : 0 < l.length := by simpa using h0
        exact ⟨l[0], List.getElem?_eq_getElem h1, by simp⟩
      obtain ⟨_, cs', ⟨c1, _, _⟩, c4, _⟩ := hat 0 x0 hx0
      have hel : 0 < ((l.map en)[0]).length := by rw [hx0', c1, c4]; exact hsz
      obtain ⟨_, _, _, _, _, q1, q2⟩ := key 0 0 _ _ hk (List.getElem?_eq_getElem hel)
      exact ⟨by rw [← q1], noZ _, q2⟩
    · rw [List.getElem?_map] at hk
      cases hx : l[k]? with
      | none => rw [hx] at hk; cases hk
      | some z =>
        rw [hx] at hk
        simp at hk
        subst hk
        obtain ⟨_, cs', ⟨c1, _, _⟩, c4, _⟩ := hat k z hx
        rw [c1, c4]
    · obtain ⟨_, u, q1, q2, _⟩ := key k j e y hk hj
      rw [q1]
      exact ⟨rfl, q2⟩
    · obtain ⟨_, u, q1, _, q3, _⟩ := key k j e y hk hj
      rw [q1]
      exact q3

/-- fields from one on -/
def OpensF (enc : TypeId × Value → H) (P : Program) (w : World) (base : Nat) (spare : Nat → Bool) (held : Bool) (fs : List Field) (off tot : Nat) {α : Type} (en : α → List AV) (R : α → Prop) : Prop :=
  ∀ (fuel : Nat) (cs : List Value) (xs : List (DataW H × List MemPlace)), cs.length = tot → xs.length = fs.length → (∀ (i : Nat) (f : Field), fs[i]? = some f → DataW.trod enc P w base spare held fuel f.type ((cs.drop f.offset).take (P.cellsOf f.type)) = xs[i]?) →
    (∀ (i : Nat) (f : Field) (x : DataW H × List MemPlace), fs[i]? = some f → xs[i]? = some x → Sized P f.type x.1) → ∃ a, R a ∧ CellsRv w (en a) (cs.drop off)
theorem cells_append {a b : List AV} {xs ys : List Value} (h1 : CellsRv w a xs) (h2 : CellsRv w b ys) : CellsRv w (a ++ b) (xs ++ ys) := by
  refine ⟨by rw [List.length_append, List.length_append, h1.1, h2.1], fun j y u hy hu => ?_, fun y hy => ?_⟩
  · rcases Nat.lt_or_ge j a.length with hlt | hge
    · rw [List.getElem?_append_left hlt] at hy
      rw [List.getElem?_append_left (by rw [← h1.1]; exact hlt)] at hu
      exact h1.2.1 j y u hy hu
    · rw [List.getElem?_append_right hge] at hy
      rw [List.getElem?_append_right (by rw [← h1.1]; exact hge)] at hu
      rw [h1.1] at hy
      exact h2.2.1 _ y u hy hu
  · rcases List.mem_append.1 hy with h | h
    · exact h1.2.2 y h
    · exact h2.2.2 y h
theorem opensF_last {f : Field} {off tot : Nat} {α : Type} {en : α → List AV} {R : α → Prop} (ho : f.offset = off) (htot : off + P.cellsOf f.type = tot) (h : Opens enc P w base spare held f.type en R) : OpensF enc P w base spare held [f] off tot en R := by
  intro fuel cs xs hcl hx ht hs
  obtain ⟨x, rfl⟩ := List.length_eq_one_iff.1 hx
  have h1 := ht 0 f rfl
  obtain ⟨a, ha, hc⟩ := h fuel _ x h1 (hs 0 f x rfl rfl)
  refine ⟨a, ha, ?_⟩
  rw [ho, List.take_of_length_le (by simp; omega)] at hc
  exact hc
theorem opensF_cons {f : Field} {fs : List Field} {off off' tot : Nat} {α β : Type} {en : α → List AV} {R : α → Prop} {en' : β → List AV} {R' : β → Prop} (ho : f.offset = off) (hoff : off + P.cellsOf f.type = off') (h : Opens enc P w base spare held f.type en R) (h' : OpensF enc P w base spare held fs off' tot en' R') :
    OpensF enc P w base spare held (f :: fs) off tot (fun p : α × β => en p.1 ++ en' p.2) (fun p => R p.1 ∧ R' p.2) := by
  intro fuel cs xs hcl hx ht hs
  cases xs with
  | nil => simp at hx
  | cons x xs =>
    obtain ⟨a, ha, hc⟩ := h fuel _ x (ht 0 f rfl) (hs 0 f x rfl rfl)
    obtain ⟨b, hb, hc'⟩ := h' fuel cs xs hcl (by simpa using hx) (fun i g hg => by simpa using ht (i + 1) g (by simpa using hg)) (fun i g y hg hy => hs (i + 1) g y (by simpa using hg) (by simpa using hy))
    refine ⟨(a, b), ⟨ha, hb⟩, ?_⟩
    rw [ho] at hc
    have : cs.drop off = (cs.drop off).take (P.cellsOf f.type) ++ cs.drop off' := by
      rw [← hoff, ← List.drop_drop, List.take_append_drop]
    rw [this]
    exact cells_append hc hc'
theorem opens_struct {t : TypeId} {fs : Array Field} {α : Type} {en : α → List AV} {R : α → Prop} (ht : P.underlying t = some (.struct fs)) (h : OpensF enc P w base spare held fs.toList 0 (P.cellsOf t) en R) : Opens enc P w base spare held t en R := by
  intro fuel cs x hx hs
  obtain ⟨xs, n, _, rfl, hcl, hxl, hf⟩ := DataW.trod_struct ht hx
  obtain ⟨a, ha, hc⟩ := h n cs xs hcl (by simpa using hxl) (fun i f hi => hf i f (by simpa using hi)) (fun i f y hi hy => sized_field hs ht (j := i) (by simpa using hi) (by simp [List.getElem?_map, hy]))
  exact ⟨a, ha, by simpa using hc⟩

/-- a struct that came in -/
theorem agg_rv {es : List AV} {us : Array Value} (h : CellsRv w es us.toList) : RV w nov mZ (.agg es) (.agg us) :=
  .agg (by rw [h.1]; simp) (fun j y u hy hu => (h.2.1 j y u hy (by simpa using hu)).1)
end
end Go.Proofs.YtohjegemooakpaaGreat.Am
/- From a walk to a law's row: the arguments read behind the call as before, the result is true. -/
namespace Go.Proofs.YtohjegemooakpaaGreat
open Go.RowKit Go.WideShapes Go.ChangeShapes Go.ChangeAt
section
variable {H : Type} {enc : TypeId × Value → H} {P : Program}
theorem post_of_below {f : Func} {s : ChangeSpec} {apart fresh handsOn again : Bool} {W W' : World} {args : Array Value} {v : Value} {ds gs : List (DataW H)} {before pa pv : List MemPlace}
    (hW : DataW.Whole enc P f.params.toList s.vars apart W args.toList ds gs before)
    (hres : ∀ (b : Nat) (sp : Nat → Bool) (hd : Bool), DataW.TrodAll enc P W' b sp hd f.resultTypes.toList (v.resultList f.resultTypes.size) (s.fn H (ds ++ gs)).results [])
    (hargs : ∀ sp : Nat → Bool, (∀ p ∈ before, sp p.block = true) → DataW.TrodAll enc P W' 0 sp true f.params.toList args.toList (s.fn H (ds ++ gs)).args pa)
    (hvars : ∀ sp : Nat → Bool, (∀ p ∈ before, sp p.block = true) → DataW.TrodVars enc P W' sp s.vars (s.fn H (ds ++ gs)).vars pv)
    (hps : before = pa ++ pv) (hb : Below W.heap.size W W')
    (hok : ∀ (j : Nat) (t : TypeId) (r : Value), f.resultTypes[j]? = some t → (v.resultList f.resultTypes.size)[j]? = some r → Value.okWide P W' .any 0 t r) :
    s.post enc P f apart fresh handsOn again W args v W' := by
  have hlt : ∀ p ∈ before, p.block < W.heap.size := fun p hp => hW.lt p hp
  have hold : ∀ p ∈ before, (fun b => decide (b < W.heap.size)) p.block = true := fun p hp => by simpa using hlt p hp
  refine ⟨ds, gs, before, [], pa, pv, hW, hres _ _ _, hargs _ hold, hvars _ hold, World.keptBut_mono (fun p hp => ⟨hp, ?_⟩) (hb.frame (· ∈ before)), fun _ => ?_⟩
  · rw [hps, List.mem_append] at hp
    exact Or.inr hp
  · obtain ⟨_, _, _, _, _, hz, hn⟩ := hW
    refine ⟨hok, _, _, ([] ++ pa) ++ pv, ⟨[] ++ pa, pv, trodAll_append (hargs _ (fun _ _ => rfl)) (hres _ _ _), hvars _ (fun _ _ => rfl), rfl, ?_, ?_⟩, ?_⟩
    · intro b off hp
      have hin : MemPlace.cell b off ∈ before := by rw [hps]; simpa using hp
      rw [hb.frozen (hlt _ hin)]
      exact hz b off hin
    · intro ha
      have := hn ha
      rw [hps] at this
      simpa using this
    · intro p hp _
      rw [hps]
      simpa using hp

theorem trodAll_keep (hl : laidOutB P = true) {W W' : World} (hb : Below W.heap.size W W') (sp : Nat → Bool) (ts : List TypeId) : ∀ (vs : List Value) (ds : List (DataW H)) (ps : List MemPlace), (∀ t ∈ ts, P.readableRec t = true ∧ t < P.types.size) →
    DataW.TrodAll enc P W 0 (fun _ => true) true ts vs ds ps → (∀ x ∈ ps, x.block < W.heap.size) → (∀ x ∈ ps, sp x.block = true) → DataW.TrodAll enc P W' 0 sp true ts vs ds ps := by
  induction ts with
  | nil =>
    intro vs ds ps _ h _ _
    obtain ⟨rfl, rfl, rfl⟩ := trodAll_nil h
    exact trodAll_mk0
  | cons t ts ih =>
    intro vs ds ps hts h hlt hsp
    obtain ⟨v0, vs0, d0, ds0, p0, q0, rfl, rfl, rfl, h0, r0⟩ := trodAll_cons h
    obtain ⟨hr, hrow⟩ := hts t (by simp)
    exact trodAll_cons_mk (WideElems.Trod_stays hl hr hrow h0 (fun x hx => hb.same (hlt x (by simp [hx]))) (fun x hx => hsp x (by simp [hx])))
      (ih _ _ _ (fun t ht => hts t (by simp [ht])) r0 (fun x hx => hlt x (by simp [hx])) (fun x hx => hsp x (by simp [hx])))

/-- A LAW: it returned true, nothing that was there has turned. -/
theorem law_post (hl : laidOutB P = true) {f : Func} {s : ChangeSpec} {T : TypeId} {W W' : World} {args : Array Value} {ds : List (DataW H)} {before : List MemPlace}
    (hvars : s.vars = []) (hrt : f.resultTypes = #[T]) (hT : P.underlying T = some .bool) (hts : f.params.toList.all (fun t => P.readableRec t && decide (t < P.types.size)) = true)
    (hW : DataW.Whole enc P f.params.toList s.vars false W args.toList ds [] before) (hA : DataW.TrodAll enc P W 0 (fun _ => true) true f.params.toList args.toList ds before)
    (e1 : (s.fn H (ds ++ [])).results = [.lit (.bool true)]) (e2 : (s.fn H (ds ++ [])).args = ds) (e3 : (s.fn H (ds ++ [])).vars = []) (hb : Below W.heap.size W W') :
    s.post enc P f false true false false W args (.bool true) W' := by
  have hlt : ∀ x ∈ before, x.block < W.heap.size := fun x hx => hW.lt x hx
  refine post_of_below (pa := before) (pv := []) hW ?_ ?_ ?_ (by simp) hb ?_
  · intro b sp hd
    rw [e1, hrt]
    exact trodAll_cons_mk (shut_bool hT true) trodAll_mk0
  · intro sp hsp
    rw [e2]
    exact trodAll_keep hl hb sp _ _ _ _ (fun t ht => by simpa using List.all_eq_true.1 hts t ht) hA hlt hsp
  · intro sp hsp
    rw [e3, hvars]
    rfl
  · exact ok_one hrt rfl (okWide_bool_mk hT true)
end
end Go.Proofs.YtohjegemooakpaaGreat
/- Readers of the arguments of the laws about tasks. -/
namespace Go.Proofs.YtohjegemooakpaaGreat.Am
open Go.RowKit Go.ChangeShapes Go.WideShapes Go.Deep Go.Joins
section
variable {H : Type} {enc : TypeId × Value → H} {w : World} {base : Nat} {spare : Nat → Bool} {held : Bool}
theorem opens_conv {P : Program} {t : TypeId} {α β : Type} {en : α → List AV} {en2 : β → List AV} {R : α → Prop} {R2 : β → Prop} (f : α → β) (h : Opens enc P w base spare held t en R) (he : ∀ a, en2 (f a) = en a) (hR : ∀ a, R a → R2 (f a)) : Opens enc P w base spare held t en2 R2 := by
  intro fuel cs x hx hs
  obtain ⟨a, ha, hc⟩ := h fuel cs x hx hs
  exact ⟨f a, hR a ha, by rw [he]; exact hc⟩
theorem opens_str2 {P : Program} {t : TypeId} (ht : P.underlying t = some .string) : Opens enc P w base spare held t (fun s : ByteArray => [.c (.string s)]) (fun s => s.size ≤ 140737488355328) := by
  intro fuel cs x h hsz
  obtain ⟨s, rfl, rfl, -⟩ := DataW.trod_string ht h
  refine ⟨s, ?_, cells_one1 (.c _) rfl (.c _)⟩
  have h1 : s.data.toList.length ≤ 140737488355328 := Nat.le_trans (hsz s.data.toList.length (List.mem_singleton.2 rfl)) (by decide)
  rw [Array.length_toList] at h1
  exact h1
abbrev I64F (p : Fact) : Prop := (Lit.int .i64 p.1).wf = true ∧ (Lit.int .i64 p.2).wf = true
abbrev FactsR (l : List Fact) : Prop := l.length * 16 ≤ 140737488355328 ∧ ∀ p ∈ l, I64F p
abbrev EffR (e : GEffect) : Prop := FactsR e.When
abbrev OpR (o : GOp) : Prop := o.Name.size ≤ 140737488355328 ∧ FactsR o.Pre ∧ o.Effs.length * 40 ≤ 140737488355328 ∧ ∀ e ∈ o.Effs, EffR e
abbrev IntsR (l : List Int) : Prop := l.length * 8 ≤ 140737488355328 ∧ ∀ z ∈ l, (Lit.int .i64 z).wf = true
abbrev TaskR (t : GTask) : Prop := IntsR t.Vars ∧ IntsR t.Init ∧ FactsR t.Goal ∧ t.Ops.length * 72 ≤ 140737488355328 ∧ ∀ o ∈ t.Ops, OpR o
set_option maxRecDepth 100000 in
theorem oFact : Opens enc Tryz.prog w base spare held 68 cF I64F :=
  opens_struct Tryz.underlying68 (opensF_cons (off' := 1) rfl (by kernel_rfl) (opens_int Tryz.underlying3) (opensF_last rfl (by kernel_rfl) (opens_int Tryz.underlying3)))
set_option maxRecDepth 100000 in
theorem oFacts : Opens enc Tryz.prog w base spare held 23 (fun l : List Fact => [.sl 2 (l.map cF)]) FactsR :=
  opens_slice Tryz.underlying23 (by kernel_rfl) (by kernel_rfl) (by decide) (by decide) oFact
set_option maxRecDepth 100000 in
theorem oInts : Opens enc Tryz.prog w base spare held 22 (fun l : List Int => [.sl 1 (l.map cI)]) IntsR :=
  opens_slice Tryz.underlying22 (by kernel_rfl) (by kernel_rfl) (by decide) (by decide) (opens_int Tryz.underlying3)
set_option maxRecDepth 100000 in
theorem oEff : Opens enc Tryz.prog w base spare held 70 cGEffect EffR :=
  opens_conv (fun p : List Fact × (Int × Int) => { When := p.1, Var := p.2.1, Val := p.2.2 : GEffect })
    (opens_struct Tryz.underlying70 (opensF_cons (off' := 1) (en := fun l : List Fact => [AV.sl 2 (l.map cF)]) (R := FactsR) (en' := fun z : Int × Int => [AV.c (.int .i64 z.1)] ++ [AV.c (.int .i64 z.2)]) (R' := fun z : Int × Int => (Lit.int .i64 z.1).wf = true ∧ (Lit.int .i64 z.2).wf = true) rfl (by kernel_rfl) oFacts
      (opensF_cons (off' := 2) (en := fun z : Int => [AV.c (.int .i64 z)]) (R := fun z : Int => (Lit.int .i64 z).wf = true) (en' := fun z : Int => [AV.c (.int .i64 z)]) (R' := fun z : Int => (Lit.int .i64 z).wf = true) rfl (by kernel_rfl) (opens_int Tryz.underlying3) (opensF_last rfl (by kernel_rfl) (opens_int Tryz.underlying3)))))
    (fun _ => rfl) (fun _ h => h.1)
set_option maxRecDepth 100000 in
theorem oOp : Opens enc Tryz.prog w base spare held 73 cGOp OpR :=
  opens_conv (fun p : ByteArray × (Int × (List Fact × List GEffect)) => { Name := p.1, Cost := p.2.1, Pre := p.2.2.1, Effs := p.2.2.2 : GOp })
    (opens_struct Tryz.underlying73 (opensF_cons (off' := 1) (en := fun s : ByteArray => [AV.c (.string s)]) (R := fun s => s.size ≤ 140737488355328) (en' := fun p : Int × (List Fact × List GEffect) => [AV.c (.int .i64 p.1)] ++ ([AV.sl 2 (p.2.1.map cF)] ++ [AV.sl 3 (p.2.2.map cGEffect)])) (R' := fun p : Int × (List Fact × List GEffect) => (Lit.int .i64 p.1).wf = true ∧ (FactsR p.2.1 ∧ (p.2.2.length * 40 ≤ 140737488355328 ∧ ∀ e ∈ p.2.2, EffR e))) rfl (by kernel_rfl) (opens_str2 Tryz.underlying9)
      (opensF_cons (off' := 2) (en := fun z : Int => [AV.c (.int .i64 z)]) (R := fun z : Int => (Lit.int .i64 z).wf = true) (en' := fun p : List Fact × List GEffect => [AV.sl 2 (p.1.map cF)] ++ [AV.sl 3 (p.2.map cGEffect)]) (R' := fun p : List Fact × List GEffect => FactsR p.1 ∧ (p.2.length * 40 ≤ 140737488355328 ∧ ∀ e ∈ p.2, EffR e)) rfl (by kernel_rfl) (opens_int Tryz.underlying3)
        (opensF_cons (off' := 3) (en := fun l : List Fact => [AV.sl 2 (l.map cF)]) (R := FactsR) (en' := fun l : List GEffect => [AV.sl 3 (l.map cGEffect)]) (R' := fun l : List GEffect => l.length * 40 ≤ 140737488355328 ∧ ∀ e ∈ l, EffR e) rfl (by kernel_rfl) oFacts
          (opensF_last rfl (by kernel_rfl) (opens_slice Tryz.underlying71 (by kernel_rfl) (by kernel_rfl) (by decide) (by decide) oEff))))))
    (fun _ => rfl) (fun _ h => ⟨h.1, h.2.2.1, h.2.2.2⟩)
set_option maxRecDepth 100000 in
theorem oTask : Opens enc Tryz.prog w base spare held 26 cGTask TaskR :=
  opens_conv (fun p : List Int × (List Int × (List Fact × List GOp)) => { Vars := p.1, Init := p.2.1, Goal := p.2.2.1, Ops := p.2.2.2 : GTask })
    (opens_struct Tryz.underlying26 (opensF_cons (off' := 1) (en := fun l : List Int => [AV.sl 1 (l.map cI)]) (R := IntsR) (en' := fun p : List Int × (List Fact × List GOp) => [AV.sl 1 (p.1.map cI)] ++ ([AV.sl 2 (p.2.1.map cF)] ++ [AV.sl 4 (p.2.2.map cGOp)])) (R' := fun p : List Int × (List Fact × List GOp) => IntsR p.1 ∧ (FactsR p.2.1 ∧ (p.2.2.length * 72 ≤ 140737488355328 ∧ ∀ o ∈ p.2.2, OpR o))) rfl (by kernel_rfl) oInts
      (opensF_cons (off' := 2) (en := fun l : List Int => [AV.sl 1 (l.map cI)]) (R := IntsR) (en' := fun p : List Fact × List GOp => [AV.sl 2 (p.1.map cF)] ++ [AV.sl 4 (p.2.map cGOp)]) (R' := fun p : List Fact × List GOp => FactsR p.1 ∧ (p.2.length * 72 ≤ 140737488355328 ∧ ∀ o ∈ p.2, OpR o)) rfl (by kernel_rfl) oInts
        (opensF_cons (off' := 3) (en := fun l : List Fact => [AV.sl 2 (l.map cF)]) (R := FactsR) (en' := fun l : List GOp => [AV.sl 4 (l.map cGOp)]) (R' := fun l : List GOp => l.length * 72 ≤ 140737488355328 ∧ ∀ o ∈ l, OpR o) rfl (by kernel_rfl) oFacts
          (opensF_last rfl (by kernel_rfl) (opens_slice Tryz.underlying24 (by kernel_rfl) (by kernel_rfl) (by decide) (by decide) oOp))))))
    (fun _ => rfl) (fun _ h => h)
/-- a struct argument -/
theorem arg_struct {P : Program} {t : TypeId} {fs : Array Field} {α : Type} {en : α → List AV} {R : α → Prop} {r : Reach} {b0 : Nat} {v : Value} {d : DataW H} {p : List MemPlace} (ht : P.underlying t = some (.struct fs)) (hv : Value.okWide P w r b0 t v) (ho : Opens enc P w base spare held t en R) (h : DataW.Trod enc P w base spare held t v d p) (hs : Sized P t d) :
    ∃ a, R a ∧ RV w nov mZ (.agg (en a)) v := by
  obtain ⟨cs, rfl, hsz⟩ := okWide_struct ht hv
  obtain ⟨fuel, hf⟩ := h
  obtain ⟨a, ha, hc⟩ := ho fuel _ _ hf hs
  exact ⟨a, ha, agg_rv hc⟩
end
theorem TaskR.sh {t : GTask} (h : TaskR t) : ShT t := by
  obtain ⟨⟨h1, -⟩, ⟨h2, -⟩, ⟨h3, -⟩, h4, h5⟩ := h
  refine ⟨?_, ?_, ?_, ?_, fun o ho => ?_⟩
  · show _ ≤ _; omega
  · show _ ≤ _; omega
  · show _ ≤ _; omega
  · show _ ≤ _; omega
  · obtain ⟨g1, ⟨g2, -⟩, g3, g4⟩ := h5 o ho
    refine ⟨by omega, ?_, ?_, fun e he => ?_⟩
    · show _ ≤ _; omega
    · show _ ≤ _; omega
    · have := (g4 e he).1
      show _ ≤ _; omega
theorem FactsR.sh {l : List Fact} (h : FactsR l) : Sh l := by have := h.1; show _ ≤ _; omega
theorem law_of {f : FuncId} {args : List AV} {w : World} {cargs : Array Value} (h : ACall cx f args (.c (.bool true))) (hs : cargs.size = args.length) (hr : ∀ (j : Nat) (x : AV) (v : Value), args[j]? = some x → cargs[j]? = some v → RV w nov (mO (fun _ => False)) x v) :
    Calls Tryz.prog f cargs w fun e w' => e = .returned (.bool true) ∧ Below w.heap.size w w' := by
  refine Calls.mono (h.2 w (fun _ => False) cargs trivial (Nat.zero_le _) (fun b hb => hb.elim) hs hr) ?_
  rintro e w' ⟨v, rfl, h1, h2, _⟩
  rw [rv_c h1]
  exact ⟨rfl, ⟨h2.os, h2.tape, h2.output, h2.size, fun b hb => h2.block b hb (fun h => h)⟩⟩
end Go.Proofs.YtohjegemooakpaaGreat.Am
/- Reader of a certificate. -/
namespace Go.Proofs.YtohjegemooakpaaGreat.Am
open Go.RowKit Go.ChangeShapes Go.WideShapes Go.Deep Go.Joins
section
variable {H : Type} {enc : TypeId × Value → H} {w : World} {base : Nat} {spare : Nat → Bool} {held : Bool}
abbrev NogR (x : Nogood) : Prop := FactsR x.1 ∧ (Lit.int .i64 x.2).wf = true
abbrev CertR (c : GCertificate) : Prop := c.Nogoods.length * 32 ≤ 140737488355328 ∧ ∀ x ∈ c.Nogoods, NogR x
set_option maxRecDepth 100000 in
theorem oNogood : Opens enc Tryz.prog w base spare held 40 cN NogR :=
  opens_struct Tryz.underlying40 (opensF_cons (off' := 1) (en := fun l : List Fact => [AV.sl 2 (l.map cF)]) (R := FactsR) (en' := fun z : Int => [AV.c (.int .i64 z)]) (R' := fun z : Int => (Lit.int .i64 z).wf = true) rfl (by kernel_rfl) oFacts (opensF_last rfl (by kernel_rfl) (opens_int Tryz.underlying3)))
set_option maxRecDepth 100000 in
theorem oNogoods : Opens enc Tryz.prog w base spare held 29 (fun l : List Nogood => [.sl 2 (l.map cN)]) (fun l => l.length * 32 ≤ 140737488355328 ∧ ∀ x ∈ l, NogR x) :=
  opens_slice Tryz.underlying29 (by kernel_rfl) (by kernel_rfl) (by decide) (by decide) oNogood
set_option maxRecDepth 100000 in
theorem oCert : Opens enc Tryz.prog w base spare held 31 cGCertificate CertR :=
  opens_conv (fun p : Int × List Nogood => { Bound := p.1, Nogoods := p.2 : GCertificate })
    (opens_struct Tryz.underlying31 (opensF_cons (off' := 1) (en := fun z : Int => [AV.c (.int .i64 z)]) (R := fun z : Int => (Lit.int .i64 z).wf = true) (en' := fun l : List Nogood => [AV.sl 2 (l.map cN)]) (R' := fun l : List Nogood => l.length * 32 ≤ 140737488355328 ∧ ∀ x ∈ l, NogR x) rfl (by kernel_rfl) (opens_int Tryz.underlying3) (opensF_last rfl (by kernel_rfl) oNogoods)))
    (fun _ => rfl) (fun _ h => h.2)
end
theorem CertR.sh {c : GCertificate} (h : CertR c) : ShC c := by
  refine ⟨?_, fun n hn => ?_⟩
  · have := h.1; show _ ≤ _; omega
  · have := (h.2 n hn).1.1; show _ ≤ _; omega
end Go.Proofs.YtohjegemooakpaaGreat.Am
/- stratagemlaw32.CertifyWeakens returns true for every input. No condition beyond the row's own. -/
namespace Go.Proofs.YtohjegemooakpaaGreat.rowWeakens
open Go.ChangeShapes Go.WideShapes Go.ChangeAt Go.RowKit Am
theorem laidOut : laidOutB Tryz.prog = true := by kernel_rfl
set_option maxRecDepth 100000 in
theorem contract (H : Type) (enc : TypeId × Value → H) (W : World) (base : Nat) (args : Array Value) (ds gs : List (DataW H)) (before : List MemPlace)
    (hval : ∀ (j : Nat) t v, Tryz.f9.params[j]? = some t → args[j]? = some v → Value.okWide Tryz.prog W .any base t v)
    (hW : DataW.Whole enc Tryz.prog Tryz.f9.params.toList Rows.certifyWeakensSpec.vars false W args.toList ds gs before)
    (hsz : (DataW.weightsEach Tryz.prog (Tryz.f9.params.toList ++ (OpenSpec.ofChange Rows.certifyWeakensSpec).bare.plain.varTypes Tryz.prog) (ds ++ gs)).all (· ≤ reachBytes) = true) :
    Calls Tryz.prog 9 args W fun e W' => ∃ v, e = .returned v ∧ Rows.certifyWeakensSpec.post enc Tryz.prog Tryz.f9 false true false false W args v W' := by
  have hW' := hW
  obtain ⟨p, q, hA0, hV, rfl, hfz, hnd⟩ := hW
  have hA : DataW.TrodAll enc Tryz.prog W 0 (fun _ => true) true Tryz.f9.params.toList args.toList ds p := hA0
  rw [Tryz.params9] at hA hval
  obtain ⟨v0, vs0, d0, ds0, p0, q0, hargs, rfl, rfl, h0, r0⟩ := trodAll_cons hA
  obtain ⟨v1, vs1, d1, ds1, p1, q1, rfl, rfl, rfl, h1, r1⟩ := trodAll_cons r0
  obtain ⟨rfl, rfl, rfl⟩ := trodAll_nil r1
  obtain rfl : args = #[v0, v1] := Array.ext' hargs
  obtain ⟨rfl, rfl⟩ := trodVars_none hV
  simp only [List.append_nil] at hW' hA0 hsz
  rw [Tryz.params9] at hsz
  obtain ⟨t, ht, k0⟩ := arg_struct Tryz.underlying26 (hval 0 26 v0 rfl rfl) oTask h0 (sized_arg hsz (j := 0) rfl rfl)
  obtain ⟨c, hc, k1⟩ := arg_struct Tryz.underlying31 (hval 1 31 v1 rfl rfl) oCert h1 (sized_arg hsz (j := 1) rfl rfl)
  refine (law_of (A_l32_CertifyWeakens 100 t c (weakens_true t ht.sh c hc.sh)) rfl (fun j x v hx hv => ?_)).mono fun e W' ⟨he, hb⟩ => ?_
  · match j, hx, hv with
    | 0, hx, hv => simp at hx hv; subst hx hv; exact k0
    | 1, hx, hv => simp at hx hv; subst hx hv; exact k1
    | j + 2, hx, hv => simp at hx
  · subst he
    exact ⟨_, rfl, law_post laidOut rfl (by kernel_rfl) Tryz.underlying4 (by kernel_rfl) hW' hA0 rfl rfl rfl hb⟩
theorem own : ownKnob Tryz.prog.godebug = none := by kernel_rfl
theorem laid_met (os : Os) : laidMet Tryz.prog Rows.certifyWeakensRow.laid ((World.holding Tryz.prog os ⟨#[], #[], []⟩).forCall (fun _ _ => 0) ⟨#[], #[.agg #[.slice none 0 0, .slice none 0 0, .slice none 0 0, .slice none 0 0], .agg #[.int .i64 0, .slice none 0 0]], []⟩).memory :=
  laidMet_of_run' 8 (by kernel_rfl) (by kernel_rfl)
theorem reads (os : Os) {H : Type} (enc : TypeId × Value → H) : ∃ places, DataW.whole enc Tryz.prog ((World.holding Tryz.prog os ⟨#[], #[], []⟩).forCall (fun _ _ => 0) ⟨#[], #[.agg #[.slice none 0 0, .slice none 0 0, .slice none 0 0, .slice none 0 0], .agg #[.int .i64 0, .slice none 0 0]], []⟩).memory Tryz.f9.params.toList Rows.certifyWeakensSpec.vars false (#[.agg #[.slice none 0 0, .slice none 0 0, .slice none 0 0, .slice none 0 0], .agg #[.int .i64 0, .slice none 0 0]] : Array Value).toList 8 = some ([.agg [.nil, .nil, .nil, .nil], .agg [.lit (.int .i64 0), .nil]], [], places) :=
  ⟨[], by kernel_rfl⟩

set_option maxRecDepth 100000 in
theorem lifted (os : Os) (started : os.Started) (H : Type) (enc : TypeId × Value → H) (F : Stop.Interp) :
    ReturnsInHanded {} Tryz.checked os 9 .any ((OpenSpec.ofChange Rows.certifyWeakensSpec).preRow enc Tryz.prog Tryz.f9 Rows.certifyWeakensRow.domain false Rows.certifyWeakensRow.laid) (((OpenSpec.ofChange Rows.certifyWeakensSpec).at F).post enc Tryz.prog Tryz.f9 false true false false) := by
  obtain ⟨places, hx⟩ := reads os enc
  refine returnsInHanded_of_row (C := Tryz.checked) (s := OpenSpec.ofChange Rows.certifyWeakensSpec) own started (by kernel_rfl) Tryz.func9
    (witness_row_at (enc := enc) (C := Tryz.checked) false (World.holding Tryz.prog os ⟨#[], #[], []⟩) #[.agg #[.slice none 0 0, .slice none 0 0, .slice none 0 0, .slice none 0 0], .agg #[.int .i64 0, .slice none 0 0]] rfl (by kernel_rfl) (by kernel_rfl) (by kernel_rfl)
      (OpenSpec.preRow_of_cond 8 hx (by kernel_rfl) (fun k hk => by cases hk) (by kernel_rfl) (laid_met os))) ?_
  intro W base args ds gs before hval hW _ _ hsz _ _ _
  exact contract H enc W base args ds gs before hval hW hsz

/-- THE STATEMENT. -/
theorem said : Rows.CertifyWeakensSaid :=
  OpenClaim.holds_of_cond 9 Tryz.f9 rfl rfl rfl rfl rfl rfl rfl ⟨rfl, rfl, rfl, rfl, rfl⟩ rfl rfl rfl rfl rfl (by kernel_rfl) Tryz.func9 (by kernel_rfl)
    (of_decide_eq_true (by kernel_rfl)) (by unfold Func.isWrapper; first | (rw [if_pos (by decide +kernel)]; kernel_rfl) | (rw [if_neg (by decide +kernel)]; exact ⟨rfl, rfl⟩))
    (fun os started H enc _ F => by rw [OpenClaim.pre_eq_preRow]; exact lifted os started H enc F)
end Go.Proofs.YtohjegemooakpaaGreat.rowWeakens
