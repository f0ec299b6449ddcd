/- strings.Builder: copyCheck and WriteString (turned from the shelf's proofs to this program's numbers), with the frame by types: whatever block is neither a builder's nor bytes stays. -/
import Derived.Test.YticdfbhbbapbdaaDoorBase
import Derived.Test.YticdfbhbbapbdaaDoorShelf
import Derived.Lib.Builder
import Derived.Lib.AppendStr
import Derived.Lib.UnsafeStr
import Derived.Laws.Externs
import Derived.Lib.SmallJoins
namespace Go.Proofs.YticdfbhbbapbdaaDoor
open Go.RowKit

/-- blocks whose elements' types are not listed stay as they are -/
def KeepT (ts : List TypeId) (w w' : World) : Prop := w.heap.size ≤ w'.heap.size ∧ ∀ (i : Nat) (cs : Array Value) (t : TypeId) (fz : Nat × Nat), w.heap[i]? = some (Obj.cells cs t fz) → t ∉ ts → w'.heap[i]? = some (Obj.cells cs t fz)
theorem KeepT.refl (ts : List TypeId) (w : World) : KeepT ts w w := ⟨Nat.le_refl _, fun _ _ _ _ h _ => h⟩
theorem KeepT.trans {ts : List TypeId} {a b c : World} (h : KeepT ts a b) (k : KeepT ts b c) : KeepT ts a c := ⟨Nat.le_trans h.1 k.1, fun i cs t fz hi ht => k.2 i cs t fz (h.2 i cs t fz hi ht) ht⟩
theorem KeepT.of_below {ts : List TypeId} {w w' : World} (h : Below w.heap.size w w') : KeepT ts w w' := ⟨h.size, fun i cs t fz hi _ => by
  have hlt : i < w.heap.size := by
    rcases Nat.lt_or_ge i w.heap.size with hlt | hge
    · exact hlt
    · rw [Array.getElem?_eq_none hge] at hi; cases hi
  rw [h.block i hlt]; exact hi⟩
theorem KeepT.set_ {ts : List TypeId} {w : World} {p : Addr} {u : Value} {cs : Array Value} {t : TypeId} {fz : Nat × Nat} (hb : w.heap[p.block]? = some (.cells cs t fz)) (ht : t ∈ ts) : KeepT ts w (w.setCell p u) :=
  ⟨by simp [World.setCell], fun i cs' t' fz' hi ht' => by
    rw [Below.heap_setCell w p u i ?_]
    · exact hi
    · rintro rfl
      rw [hb] at hi
      injection hi with hi
      injection hi with _ h2 _
      exact ht' (h2 ▸ ht)⟩
theorem KeepT.grown {ts : List TypeId} {w w' : World} {base : Nat} {e : TypeId} {size n : Nat} {v : Value} {xs : List Value} (hg : w.grownBy w' v.ownBlock) (hown : w.ownsRow base e size v n xs) (ht : e ∈ ts) : KeepT ts w w' :=
  ⟨hg.size, fun i cs t fz hi hnt => by
    have hlt : i < w.heap.size := by
      rcases Nat.lt_or_ge i w.heap.size with hlt | hge
      · exact hlt
      · rw [Array.getElem?_eq_none hge] at hi; cases hi
    rw [hg.block i hlt ?_]
    · exact hi
    · intro hi'
      rcases hown.2 with ⟨rfl, _⟩ | ⟨g, cap, cur, rfl, _, hh, _⟩
      · simp [Value.ownBlock] at hi'
      · have : i = g := by simpa [Value.ownBlock] using hi'
        subst this
        rw [hh] at hi
        injection hi with hi
        injection hi with _ h2 _
        exact hnt (h2 ▸ ht)⟩
theorem KeepT.cell {ts : List TypeId} {w w' : World} (h : KeepT ts w w') {g : Nat} {cs : Array Value} {t : TypeId} {fz : Nat × Nat} (hb : w.heap[g]? = some (.cells cs t fz)) (ht : t ∉ ts) (i : Nat) : w'.cell? ⟨g, i, none⟩ = cs[i]? := by
  simp [World.cell?, h.2 _ _ _ _ hb ht]

theorem sizeBuilder : (Tryd.prog.info? 61).map (·.size) = some 2 := by kernel_rfl
theorem liesBuilder : liesAt Tryd.prog Tryd.prog.depth 61 (2 / Tryd.prog.cellsOf 61) 0 61 1 = true := by kernel_rfl
theorem infoByte : (Tryd.prog.info? 5).map (fun i => (i.zero, i.size, i.bytes)) = some (some (.int .u8 0), 1, 1) := by kernel_rfl

set_option maxHeartbeats 1000000 in
set_option maxRecDepth 100000 in
theorem copyCheck_used (b : Nat) (w : World) (h0 : w.cell? ⟨b, 0, none⟩ = some (.pointer (some ⟨b, 0, none⟩))) :
    Calls Tryd.prog 59 #[.pointer (some ⟨b, 0, none⟩)] w fun e w' => e = .returned (.tuple #[]) ∧ w' = w := by
  obtain ⟨j, hj, _⟩ := Option.map_eq_some_iff.1 sizeBuilder
  go_enter Tryd.func59, Tryd.ntmps59
  go_wp2
  rw [Lib.run_neq_ptr_same w _ Tryd.underlying58 hj]
  go_wp2
  go_end0
  exact ⟨rfl, rfl⟩

set_option maxHeartbeats 1000000 in
set_option maxRecDepth 100000 in
theorem copyCheck_fresh (b : Nat) (w : World) (h0 : w.cell? ⟨b, 0, none⟩ = some (.pointer none)) (hsh : w.shape? b = some (61, 2)) (hfz : w.frozen? ⟨b, 0, none⟩ = false) :
    Calls Tryd.prog 59 #[.pointer (some ⟨b, 0, none⟩)] w fun e w' => e = .returned (.tuple #[]) ∧ w' = w.setCell ⟨b, 0, none⟩ (.pointer (some ⟨b, 0, none⟩)) := by
  obtain ⟨j, hj, hjs⟩ := Option.map_eq_some_iff.1 sizeBuilder
  go_enter Tryd.func59, Tryd.ntmps59
  go_wp2
  rw [Lib.run_to_unsafe w ⟨b, 0, none⟩ Tryd.underlying58 Tryd.underlying96 hj (by rw [hjs]; decide) hsh (Nat.zero_lt_succ 1)]
  simp only [Result.andThen]
  rw [Oper.upon_value]
  go_wp2
  rw [run_callFunc_extern Tryd.func73 (by kernel_rfl) (by kernel_rfl) (by kernel_rfl) (e := Extern.AbiNoEscape.same) (by kernel_rfl)]
  rw [Lib.run_noEscape]
  simp only [Result.andThen]
  rw [Oper.upon_value]
  go_wp2
  rw [Lib.run_from_unsafe w ⟨b, 0, none⟩ Tryd.underlying96 Tryd.underlying58 hj hsh liesBuilder]
  simp only [Result.andThen]
  rw [Oper.upon_value]
  go_wp2
  go_end0
  exact ⟨rfl, rfl⟩

abbrev Bld (B b : Nat) (bs : List Value) (w : World) : Prop := Lib.IsBuilder 61 5 B b bs w

theorem own_keep {w w' : World} {base : Nat} {e : TypeId} {size n : Nat} {v : Value} {xs : List Value} (h : w.ownsRow base e size v n xs) (hb : Below w.heap.size w w') : w'.ownsRow base e size v n xs :=
  h.kept (row := none) ⟨hb.os, hb.tape, hb.output, hb.size, fun i hi _ => hb.block i hi⟩ (by cases v.ownBlock <;> simp)
theorem bldAt_keep {w w' : World} {T e : TypeId} {B b : Nat} {p : Value} {bs : List Value} (h : Lib.BuilderAt T e B b p bs w) (hb : Below w.heap.size w w') : Lib.BuilderAt T e B b p bs w' := by
  have hlt := h.lt
  obtain ⟨hB, v, hbk, hown, hne⟩ := h
  exact ⟨hB, v, by rw [hb.block b hlt]; exact hbk, own_keep hown hb, hne⟩
theorem bld_keep {w w' : World} {B b : Nat} {bs : List Value} (h : Bld B b bs w) (hb : Below w.heap.size w w') : Bld B b bs w' := by
  rcases h with h | h
  · exact .inl (bldAt_keep h hb)
  · exact .inr (bldAt_keep h hb)
theorem bld_lt {w : World} {B b : Nat} {bs : List Value} (h : Bld B b bs w) : b < w.heap.size := by
  rcases h with h | h
  · exact h.lt
  · exact h.lt

theorem copyCheck_calls (B b : Nat) (bs : List Value) (w : World) (h : Bld B b bs w) :
    Calls Tryd.prog 59 #[.pointer (some ⟨b, 0, none⟩)] w fun e w' => e = .returned (.tuple #[]) ∧ (Lib.BuilderAt 61 5 B b (.pointer (some ⟨b, 0, none⟩)) bs w' ∧ Below B w w' ∧ KeepT [61, 5] w w') := by
  rcases h with h | h
  · refine (copyCheck_fresh b w h.cell0 h.shape h.frozen0).mono ?_
    rintro e w' ⟨rfl, rfl⟩
    obtain ⟨hB, v, hb, _⟩ := id h
    exact ⟨rfl, h.used _, (Below.refl B w).setCell (p := ⟨b, 0, none⟩) h.1 _, KeepT.set_ (p := ⟨b, 0, none⟩) hb (by simp)⟩
  · refine (copyCheck_used b w h.cell0).mono ?_
    rintro e w' ⟨rfl, rfl⟩
    exact ⟨rfl, h, Below.refl B _, KeepT.refl _ _⟩

set_option maxHeartbeats 1000000 in
set_option maxRecDepth 100000 in
theorem writeString_calls (B b : Nat) (bs : List Value) (s : ByteArray) (w : World) (h : Bld B b bs w) (hlen : bs.length + s.size ≤ 140737488355328) (hBw : B ≤ w.heap.size) :
    Calls Tryd.prog 32 #[.pointer (some ⟨b, 0, none⟩), .string s] w fun e w' => e = .returned (.tuple #[.int .i64 s.size, .nilIface]) ∧ (Bld B b (bs ++ Lib.strCells s) w' ∧ Below B w w' ∧ KeepT [61, 5] w w') := by
  obtain ⟨i0, hi, hz0, hz1, hz2⟩ := info_parts infoByte
  go_enter Tryd.func32, Tryd.ntmps32
  go_wp2_with (go_at_call 59; refine (copyCheck_calls B b bs _ h).mono ?_)
  rintro e w1 ⟨rfl, h1, hb1, hk1⟩
  obtain ⟨hB, v, hbk, hown, hne⟩ := h1
  have c0 : w1.cell? ⟨b, 0, none⟩ = some (.pointer (some ⟨b, 0, none⟩)) := by rw [Lib.cell_of_heap hbk]; rfl
  have c1 : w1.cell? ⟨b, 1, none⟩ = some v := by rw [Lib.cell_of_heap hbk]; rfl
  go_wp2_with (at_builtin; refine Lib.wpList_append_own_string _ rfl _ _ 59 9 rfl B 5 i0 Tryd.underlying59 Tryd.underlying9 hi hz0 hz1 hz2 _ _ _ rfl hown s rfl ?c3 ?c4 ?c5 ?_)
  case c3 => unfold maxLen; omega
  case c4 => omega
  case c5 => have := hb1.size; omega
  intro v' w2 hown' hgrow _
  have hlt : b < w1.heap.size := by
    rcases Nat.lt_or_ge b w1.heap.size with h' | h'
    · exact h'
    · simp [Array.getElem?_eq_none h'] at hbk
  have hb2 : w2.heap[b]? = some (.cells #[.pointer (some ⟨b, 0, none⟩), v] 61 (0, 0)) := by
    rw [hgrow.block b hlt (fun e => hne e.symm)]
    exact hbk
  have d0 : w2.cell? ⟨b, 0, none⟩ = some (.pointer (some ⟨b, 0, none⟩)) := by rw [Lib.cell_of_heap hb2]; rfl
  have d1 : w2.cell? ⟨b, 1, none⟩ = some v := by rw [Lib.cell_of_heap hb2]; rfl
  have f1 : w2.frozen? ⟨b, 1, none⟩ = false := Lib.frozen_of_heap hb2 1
  have hk2 : KeepT [61, 5] w w2 := hk1.trans (KeepT.grown hgrow hown (by simp))
  have HK := Lib.hid hk2
  clear hk2 hk1
  obtain ⟨ao, n', cap, rfl⟩ : ∃ ao n' cap, v' = .slice ao n' cap := by
    rcases hown'.2 with ⟨hv, _⟩ | ⟨g, cap, cur, hv, _⟩
    · exact ⟨_, _, _, hv⟩
    · exact ⟨_, _, _, hv⟩
  go_wp2
  go_ret2
  refine ⟨rfl, ?_, ?_, ?_⟩
  · exact .inr (Lib.BuilderAt.put (T := 61) (e := 5) hB hb2 (bs' := bs ++ Lib.strCells s) (by simpa [Lib.strCells_length] using hown') (by decide))
  · exact (hb1.grown hgrow (by have := hb1.size; omega) (fun k hk => (hown.lt k hk).1)).setCell (p := ⟨b, 1, none⟩) hB _
  · exact HK.out.trans (KeepT.set_ (p := ⟨b, 1, none⟩) hb2 (by simp))
end Go.Proofs.YticdfbhbbapbdaaDoor
