/- An abstract machine (1): values as trees, memory of the call's own as named blocks, what a state of it says about a state of the model, single operations. -/
import Derived.Test.YticdfbhbbapbdaaDoorCopyK
import Derived.Laws.MakeOwn
import Derived.Orders
namespace Go.Proofs.YticdfbhbbapbdaaDoor.Am
open Go.RowKit

inductive AV where
  | c (v : Value)
  | sl (sz : Nat) (l : List (List AV))
  | own (i ver k len : Nat)
  | ptr (i ver k j : Nat)
  | pim (e : List AV) (j : Nat)
  | agg (cs : List AV)
  | tup (vs : List AV)
  | clo (f : Fn) (first cap : List AV)
  | ifc (t : TypeId) (v : AV)
  | dead

structure Blk where
  ty : TypeId
  sz : Nat
  box : Bool
  els : List (List AV)
structure Ent where
  ver : Nat
  blk : Option Blk

/-- where the blocks of the call's own lie, and which blocks are its callers' own -/
structure MM where
  f : Nat → Option Nat
  O : Nat → Prop
instance : CoeFun MM (fun _ => Nat → Option Nat) := ⟨MM.f⟩
abbrev Shp := Nat → Nat × Option Nat
def shp (η : Nat → Ent) : Shp := fun i => ((η i).ver, (η i).blk.map Blk.sz)
/-- b is a block of the call's own -/
def Owned (vs : Shp) (m : MM) (b : Nat) : Prop := m.O b ∨ ∃ i, (vs i).2 ≠ none ∧ m i = some b

/-- no handle of the call's own in it -/
inductive Fr : AV → Prop
  | c (v : Value) : Fr (.c v)
  | sl {sz : Nat} {l : List (List AV)} : (∀ e ∈ l, ∀ x ∈ e, Fr x) → Fr (.sl sz l)
  | pim {e : List AV} {j : Nat} : (∀ x ∈ e, Fr x) → Fr (.pim e j)
  | agg {cs : List AV} : (∀ x ∈ cs, Fr x) → Fr (.agg cs)
  | tup {cs : List AV} : (∀ x ∈ cs, Fr x) → Fr (.tup cs)
  | clo {f : Fn} {cs ds : List AV} : (∀ x ∈ cs, Fr x) → (∀ x ∈ ds, Fr x) → Fr (.clo f cs ds)
  | ifc {t : TypeId} {x : AV} : Fr x → Fr (.ifc t x)
def FrL (l : List (List AV)) : Prop := ∀ e ∈ l, ∀ x ∈ e, Fr x

/-- the abstract value stands for the value -/
inductive RV (w : World) (vs : Shp) (m : MM) : AV → Value → Prop
  | dead (v : Value) : RV w vs m .dead v
  | c (v : Value) : RV w vs m (.c v) v
  | ownS {i ver k len l c : Nat} {A : Option Addr} : ver < (vs i).1 → RV w vs m (.own i ver k len) (.slice A l c)
  | ownN {i ver sz : Nat} : vs i = (ver, some sz) → m i = none → RV w vs m (.own i ver 0 0) (.slice none 0 0)
  | ownZ {i ver k sz : Nat} {A : Option Addr} : vs i = (ver, some sz) → RV w vs m (.own i ver (k + 1) 0) (.slice A 0 0)
  | own {i ver sz b k len cap ty n : Nat} : vs i = (ver, some sz) → m i = some b → len ≤ cap → cap ≤ maxLen → w.shape? b = some (ty, n) → (k + cap) * sz = n → RV w vs m (.own i ver k len) (.slice (some ⟨b, k * sz, none⟩) len cap)
  | ptrS {i ver k j : Nat} {A : Option Addr} : ver < (vs i).1 → RV w vs m (.ptr i ver k j) (.pointer A)
  | ptr {i ver sz b k j : Nat} : vs i = (ver, some sz) → m i = some b → RV w vs m (.ptr i ver k j) (.pointer (some ⟨b, k * sz + j, none⟩))
  | sl {sz : Nat} {l : List (List AV)} {A : Option Addr} {cap b off : Nat} {f : Nat → Nat → Value} :
      (l ≠ [] → A = some ⟨b, off, none⟩ ∧ ¬ Owned vs m b ∧ b < w.heap.size) → l.length ≤ cap → l.length ≤ 140737488355328 → (∀ (k : Nat) (e : List AV), l[k]? = some e → e.length = sz) →
      (∀ (k j : Nat) (e : List AV) (x : AV), l[k]? = some e → e[j]? = some x → w.cell? ⟨b, off + (k * sz + j), none⟩ = some (f k j) ∧ (f k j).oneCell' = true) →
      (∀ (k j : Nat) (e : List AV) (x : AV), l[k]? = some e → e[j]? = some x → RV w vs m x (f k j)) → FrL l → RV w vs m (.sl sz l) (.slice A l.length cap)
  | pim {e : List AV} {j b off : Nat} {f : Nat → Value} : ¬ Owned vs m b → b < w.heap.size →
      (∀ (j : Nat) (x : AV), e[j]? = some x → w.cell? ⟨b, off + j, none⟩ = some (f j)) → (∀ (j : Nat) (x : AV), e[j]? = some x → RV w vs m x (f j)) → RV w vs m (.pim e j) (.pointer (some ⟨b, off + j, none⟩))
  | agg {cs : List AV} {us : Array Value} : cs.length = us.size → (∀ (j : Nat) (x : AV) (u : Value), cs[j]? = some x → us[j]? = some u → RV w vs m x u) → RV w vs m (.agg cs) (.agg us)
  | tup {cs : List AV} {us : Array Value} : cs.length = us.size → (∀ (j : Nat) (x : AV) (u : Value), cs[j]? = some x → us[j]? = some u → RV w vs m x u) → RV w vs m (.tup cs) (.tuple us)
  | clo {f : Fn} {cs ds : List AV} {us us' : Array Value} : cs.length = us.size → (∀ (j : Nat) (x : AV) (u : Value), cs[j]? = some x → us[j]? = some u → RV w vs m x u) →
      ds.length = us'.size → (∀ (j : Nat) (x : AV) (u : Value), ds[j]? = some x → us'[j]? = some u → RV w vs m x u) → RV w vs m (.clo f cs ds) (.func f us us')
  | ifc {t : TypeId} {x : AV} {u : Value} : RV w vs m x u → RV w vs m (.ifc t x) (.iface t u)

/-- what may become of the memory so that all values stand -/
structure Mono (w : World) (vs : Shp) (m : MM) (w' : World) (vs' : Shp) (m' : MM) : Prop where
  size : w.heap.size ≤ w'.heap.size
  cells : ∀ b, b < w.heap.size → ¬ Owned vs m b → w'.heap[b]? = w.heap[b]?
  nown : ∀ b, b < w.heap.size → ¬ Owned vs m b → ¬ Owned vs' m' b
  ver : ∀ i, (vs i).1 ≤ (vs' i).1
  same : ∀ i, (vs' i).1 = (vs i).1 → vs' i = vs i ∧ ((vs i).2 ≠ none → m' i = m i ∧ ∀ b, m i = some b → w'.shape? b = w.shape? b)

theorem Mono.at {w w' : World} {vs vs' : Shp} {m m' : MM} (h : Mono w vs m w' vs' m') {i ver sz : Nat} (hi : vs i = (ver, some sz)) :
    ver < (vs' i).1 ∨ (vs' i = (ver, some sz) ∧ m' i = m i ∧ ∀ b, m i = some b → w'.shape? b = w.shape? b) := by
  have h1 := h.ver i
  rw [hi] at h1
  rcases Nat.lt_or_ge ver (vs' i).1 with hlt | hge
  · exact .inl hlt
  · have he : (vs' i).1 = (vs i).1 := by rw [hi]; simp only at h1 ⊢; omega
    obtain ⟨a, b⟩ := h.same i he
    obtain ⟨c, d⟩ := b (by rw [hi]; simp)
    exact .inr ⟨by rw [a, hi], c, d⟩

theorem RV.mono {w w' : World} {vs vs' : Shp} {m m' : MM} (h : Mono w vs m w' vs' m') {x : AV} {v : Value} (hx : RV w vs m x v) : RV w' vs' m' x v := by
  induction hx with
  | dead v => exact .dead v
  | c v => exact .c v
  | ownS hv => exact .ownS (Nat.lt_of_lt_of_le hv (h.ver _))
  | ownN hi hm =>
    rcases h.at hi with hl | ⟨a, b, _⟩
    · exact .ownS hl
    · exact .ownN a (by rw [b, hm])
  | ownZ hi =>
    rcases h.at hi with hl | ⟨a, _, _⟩
    · exact .ownS hl
    · exact .ownZ a
  | own hi hm h1 h2 h3 h4 =>
    rcases h.at hi with hl | ⟨a, b, c⟩
    · exact .ownS hl
    · exact .own a (by rw [b, hm]) h1 h2 (by rw [c _ hm, h3]) h4
  | ptrS hv => exact .ptrS (Nat.lt_of_lt_of_le hv (h.ver _))
  | ptr hi hm =>
    rcases h.at hi with hl | ⟨a, b, _⟩
    · exact .ptrS hl
    · exact .ptr a (by rw [b, hm])
  | @sl sz l A cap b off f hA hc hl he hcell hr hfr ih =>
    refine .sl (b := b) (off := off) (f := f) (fun hne => ?_) hc hl he (fun k j e x h1 h2 => ?_) ih hfr
    · obtain ⟨a, b', c⟩ := hA hne
      exact ⟨a, h.nown _ c b', Nat.lt_of_lt_of_le c h.size⟩
    · have hne : l ≠ [] := fun e => by rw [e] at h1; simp at h1
      obtain ⟨_, b', c⟩ := hA hne
      obtain ⟨d1, d2⟩ := hcell k j e x h1 h2
      refine ⟨?_, d2⟩
      rw [← d1]
      exact World.cell?_of_block (h.cells b c b')
  | @pim e j b off f hno hlt hcell hr ih =>
    refine .pim (h.nown _ hlt hno) (Nat.lt_of_lt_of_le hlt h.size) (fun j x hx => ?_) ih
    rw [← hcell j x hx]
    exact World.cell?_of_block (h.cells b hlt hno)
  | agg hl _ ih => exact .agg hl ih
  | tup hl _ ih => exact .tup hl ih
  | clo h1 _ h2 _ i1 i2 => exact .clo h1 i1 h2 i2
  | ifc _ ih => exact .ifc ih

theorem Mono.refl (w : World) (vs : Shp) (m : MM) : Mono w vs m w vs m :=
  ⟨Nat.le_refl _, fun _ _ _ => rfl, fun _ _ h => h, fun _ => Nat.le_refl _, fun _ _ => ⟨rfl, fun _ => ⟨rfl, fun _ _ => rfl⟩⟩⟩

/-- what the machine knows of a type -/
inductive TK where
  | bool | str | iface | ptr | other
  | int (k : IntKind)
  | slice (e : TypeId)
  | struct (fs : List (Nat × TypeId))
  | array (n : Nat) (e : TypeId)
structure TI where
  sz : Nat
  bytes : Nat
  zero : Value
  kind : TK
def TK.agg : TK → Bool
  | .struct _ | .array _ _ => true
  | _ => false
def TK.fits : TK → TypeDesc → Prop
  | .bool, .bool => True
  | .str, .string => True
  | .iface, .interface _ => True
  | .ptr, .pointer _ => True
  | .int k, .int k' => k' = k
  | .slice e, .slice e' => e' = e
  | .struct fs, .struct gs => gs.toList.map (fun g => (g.offset, g.type)) = fs
  | .array n e, .array n' e' => n' = n ∧ e' = e
  | .other, d => (match d with | .struct _ | .array _ _ => True | _ => False) → False
  | _, _ => False
structure TyOk (P : Program) (t : TypeId) (ti : TI) : Prop where
  info : (P.info? t).map (fun i => (i.zero, i.size, i.bytes)) = some (some ti.zero, ti.sz, ti.bytes)
  und : ∃ d, P.underlying t = some d ∧ ti.kind.fits d
  cells : ti.zero.cells.size = ti.sz

/-- the context: a program, its package-level variables' number, what is known of them, and the types -/
structure Cx where
  P : Program
  N : Nat
  Gl : World → Prop
  keep : ∀ w w' : World, (∀ b, b < N → w'.heap[b]? = w.heap[b]?) → Gl w → Gl w'
  T : List (Option TI)
  tyOk : ∀ (t : Nat) (ti : TI), T[t]? = some (some ti) → TyOk P t ti
  mixed : P.follows .mixedOrders = true

/-- a block holds its elements -/
def BlkOk (w : World) (vs : Shp) (m : MM) (B : Blk) : Option Nat → Prop
  | none => B.els = [] ∧ B.box = false
  | some b => ∃ arr : Array Value, w.heap[b]? = some (.cells arr B.ty (0, 0)) ∧ B.els.length * B.sz ≤ arr.size ∧
      ∀ (k : Nat) (e : List AV), B.els[k]? = some e → e.length = B.sz ∧ ∀ (j : Nat) (x : AV), e[j]? = some x → ∃ v, arr[k * B.sz + j]? = some v ∧ v.oneCell' = true ∧ RV w vs m x v

structure Mem (N : Nat) (w : World) (η : Nat → Ent) (m : MM) : Prop where
  ok : ∀ i B, (η i).blk = some B → BlkOk w (shp η) m B (m i)
  inj : ∀ i i' b, (η i).blk ≠ none → (η i').blk ≠ none → m i = some b → m i' = some b → i = i'
  low : ∀ i b, (η i).blk ≠ none → m i = some b → N ≤ b
  sep : ∀ i b, (η i).blk ≠ none → m i = some b → ¬ m.O b
  olt : ∀ b, m.O b → b < w.heap.size ∧ N ≤ b
  big : N ≤ w.heap.size

/-- the blocks that the call may change, and its callers' own blocks -/
structure XX where
  X : Nat → Prop
  O : Nat → Prop
instance : CoeFun XX (fun _ => Nat → Prop) := ⟨XX.X⟩
/-- only blocks of X have changed -/
structure Kin (w0 : World) (X : Nat → Prop) (w : World) : Prop where
  os : w.os = w0.os
  tape : w.tape = w0.tape
  output : w.output = w0.output
  size : w0.heap.size ≤ w.heap.size
  block : ∀ b, b < w0.heap.size → ¬ X b → w.heap[b]? = w0.heap[b]?

structure Rep (C : Cx) (n : Nat) (w0 : World) (X : XX) (τ : Nat → AV) (η : Nat → Ent) (m : MM) (a : Act) (w : World) : Prop where
  tm : ∀ t, RV w (shp η) m (τ t) (a.tmps.getD t undef)
  sz : a.tmps.size = n
  df : a.defers = []
  mem : Mem C.N w η m
  kin : Kin w0 X.X w
  oo : m.O = X.O
  own : ∀ i b, (η i).blk ≠ none → m i = some b → X b ∨ w0.heap.size ≤ b
  gl : C.Gl w

def evA (τ : Nat → AV) : Operand → AV
  | .tmp t => τ t
  | .const v => .c v
  | .global g => .c (.pointer (some ⟨g, 0, none⟩))
  | .func f => .clo (.func f) [] []
theorem Rep.ev {C : Cx} {n : Nat} {w0 : World} {X : XX} {τ : Nat → AV} {η : Nat → Ent} {m : MM} {a : Act} {w : World} (h : Rep C n w0 X τ η m a w) (x : Operand) : RV w (shp η) m (evA τ x) (a.eval x) := by
  rcases x with t | v | g | f
  · exact h.tm t
  · exact .c v
  · exact .c _
  · exact .clo rfl (fun j x u hx => by simp at hx) rfl (fun j x u hx => by simp at hx)

def putA (τ : Nat → AV) : Option Tmp → AV → Nat → AV
  | none, _ => τ
  | some d, x => fun t => if t = d then x else τ t
def updE (η : Nat → Ent) (i : Nat) (e : Ent) : Nat → Ent := fun k => if k = i then e else η k
def InB (n : Nat) : Option Tmp → Prop
  | none => True
  | some d => d < n

theorem Rep.put {C : Cx} {n : Nat} {w0 : World} {X : XX} {τ : Nat → AV} {η : Nat → Ent} {m : MM} {a : Act} {w : World} (h : Rep C n w0 X τ η m a w) {d : Option Tmp} (hd : InB n d) {x : AV} {v : Value} (hx : RV w (shp η) m x v) :
    Rep C n w0 X (putA τ d x) η m (a.put d v) w := by
  cases d with
  | none => exact h
  | some d =>
    refine ⟨fun t => ?_, by simp [Act.put, h.sz], h.df, h.mem, h.kin, h.oo, h.own, h.gl⟩
    have hd' : d < a.tmps.size := by rw [h.sz]; exact hd
    by_cases ht : t = d
    · subst ht
      simpa [putA, Act.put, hd'] using hx
    · have := h.tm t
      simp only [putA, ht, if_false, Act.put]
      rw [Array.getD_eq_getD_getElem?] at this ⊢
      rw [Array.getElem?_setIfInBounds_ne (fun e => ht e.symm)]
      exact this

/-- one operation, from any state of the model that the state stands for -/
def Step (C : Cx) (n : Nat) (o : Oper) (τ : Nat → AV) (η : Nat → Ent) (τ' : Nat → AV) (η' : Nat → Ent) : Prop :=
  ∀ w0 X m a w, Rep C n w0 X τ η m a w → o.wp C.P a w (fun a' w' => ∃ m', Rep C n w0 X τ' η' m' a' w') (fun _ _ _ => False)

theorem step_pure {C : Cx} {n : Nat} {o : Oper} {τ : Nat → AV} {η : Nat → Ent} {x : AV} (hd : InB n o.dst)
    (h : ∀ w0 X m a w, Rep C n w0 X τ η m a w → ∃ v, (execOp a.eval o).run C.P w = .ok (.value v) w ∧ RV w (shp η) m x v) : Step C n o τ η (putA τ o.dst x) η := by
  intro w0 X m a w hr
  obtain ⟨v, h1, h2⟩ := h w0 X m a w hr
  unfold Oper.wp
  rw [h1]
  exact ⟨m, hr.put hd h2⟩

theorem Rep.drew {C : Cx} {n : Nat} {w0 : World} {X : XX} {τ : Nat → AV} {η : Nat → Ent} {m : MM} {a : Act} {w : World} (h : Rep C n w0 X τ η m a w) (k : Nat) : Rep C n w0 X τ η m a { w with drawn := k } := by
  have hm : Mono w (shp η) m { w with drawn := k } (shp η) m := ⟨Nat.le_refl _, fun _ _ _ => rfl, fun _ _ h => h, fun _ => Nat.le_refl _, fun _ _ => ⟨rfl, fun _ => ⟨rfl, fun _ _ => rfl⟩⟩⟩
  refine ⟨fun t => (h.tm t).mono hm, h.sz, h.df, ⟨fun i B hB => ?_, h.mem.inj, h.mem.low, h.mem.sep, h.mem.olt, h.mem.big⟩, ⟨h.kin.os, h.kin.tape, h.kin.output, h.kin.size, h.kin.block⟩, h.oo, h.own, C.keep w _ (fun _ _ => rfl) h.gl⟩
  have := h.mem.ok i B hB
  cases hmi : m i with
  | none => rw [hmi] at this; exact this
  | some b =>
    rw [hmi] at this
    obtain ⟨arr, h1, h2, h3⟩ := this
    refine ⟨arr, h1, h2, fun k e he => ⟨(h3 k e he).1, fun j x hx => ?_⟩⟩
    obtain ⟨v, e1, e2, e3⟩ := (h3 k e he).2 j x hx
    exact ⟨v, e1, e2, e3.mono hm⟩

section
variable {C : Cx} {n : Nat} {w0 : World} {X : XX} {τ : Nat → AV} {η : Nat → Ent} {m : MM} {a : Act} {w : World}

theorem blk_live {η : Nat → Ent} {i : Nat} : ((shp η) i).2 ≠ none ↔ (η i).blk ≠ none := by
  unfold shp
  cases (η i).blk <;> simp

theorem Rep.move {w' : World} {η' : Nat → Ent} {m' : MM} (h : Rep C n w0 X τ η m a w) (hm : Mono w (shp η) m w' (shp η') m') (hmem : Mem C.N w' η' m') (hk : Kin w0 X.X w') (hoo : m'.O = m.O)
    (hown : ∀ i b, (η' i).blk ≠ none → m' i = some b → X b ∨ w0.heap.size ≤ b) : Rep C n w0 X τ η' m' a w' := by
  refine ⟨fun t => (h.tm t).mono hm, h.sz, h.df, hmem, hk, hoo.trans h.oo, hown, C.keep w _ (fun b hb => hm.cells b (Nat.lt_of_lt_of_le hb h.mem.big) ?_) h.gl⟩
  rintro (h1 | ⟨i, h1, h2⟩)
  · have := (h.mem.olt b h1).2
    omega
  have := h.mem.low i b (blk_live.1 h1) h2
  omega

theorem BlkOk.mono {w w' : World} {vs vs' : Shp} {m m' : MM} {B : Blk} {o : Option Nat} (h : BlkOk w vs m B o) (hm : Mono w vs m w' vs' m') (hk : ∀ b, o = some b → w'.heap[b]? = w.heap[b]?) : BlkOk w' vs' m' B o := by
  cases o with
  | none => exact h
  | some b =>
    obtain ⟨arr, h1, h2, h3⟩ := h
    refine ⟨arr, by rw [hk b rfl, h1], h2, fun k e he => ⟨(h3 k e he).1, fun j x hx => ?_⟩⟩
    obtain ⟨v, e1, e2, e3⟩ := (h3 k e he).2 j x hx
    exact ⟨v, e1, e2, e3.mono hm⟩

theorem Mem.upd {N : Nat} {w w' : World} {η : Nat → Ent} {m m' : MM} {i : Nat} {e' : Ent} (h : Mem N w η m) (hm : Mono w (shp η) m w' (shp (updE η i e')) m')
    (hoth : ∀ i', i' ≠ i → m' i' = m i') (hkeep : ∀ i' b, i' ≠ i → (η i').blk ≠ none → m i' = some b → w'.heap[b]? = w.heap[b]?)
    (hnew : ∀ B, e'.blk = some B → BlkOk w' (shp (updE η i e')) m' B (m' i))
    (hinj : ∀ i' b, i' ≠ i → (η i').blk ≠ none → m i' = some b → e'.blk ≠ none → m' i ≠ some b) (hlow : ∀ b, e'.blk ≠ none → m' i = some b → N ≤ b) (hO : m'.O = m.O) (hsep : ∀ b, e'.blk ≠ none → m' i = some b → ¬ m.O b) : Mem N w' (updE η i e') m' := by
  have hu : ∀ i', i' ≠ i → updE η i e' i' = η i' := fun i' hi => by simp [updE, hi]
  have hs : updE η i e' i = e' := by simp [updE]
  refine ⟨fun i' B hB => ?_, fun i1 i2 b h1 h2 h3 h4 => ?_, fun i' b h1 h2 => ?_, fun i' b h1 h2 => ?_, fun b hb => ?_, Nat.le_trans h.big hm.size⟩
  · by_cases hi : i' = i
    · subst hi; rw [hs] at hB; exact hnew B hB
    · rw [hu i' hi] at hB
      rw [hoth i' hi]
      exact (h.ok i' B hB).mono hm (fun b hb => hkeep i' b hi (by rw [hB]; simp) hb)
  · by_cases e1 : i1 = i <;> by_cases e2 : i2 = i
    · rw [e1, e2]
    · subst e1; rw [hs] at h1; rw [hu i2 e2] at h2; rw [hoth i2 e2] at h4
      exact absurd h3 (hinj i2 b e2 h2 h4 h1)
    · subst e2; rw [hs] at h2; rw [hu i1 e1] at h1; rw [hoth i1 e1] at h3
      exact absurd h4 (hinj i1 b e1 h1 h3 h2)
    · rw [hu i1 e1] at h1; rw [hu i2 e2] at h2; rw [hoth i1 e1] at h3; rw [hoth i2 e2] at h4
      exact h.inj i1 i2 b h1 h2 h3 h4
  · by_cases hi : i' = i
    · subst hi; rw [hs] at h1; exact hlow b h1 h2
    · rw [hu i' hi] at h1; rw [hoth i' hi] at h2; exact h.low i' b h1 h2
  · rw [hO]
    by_cases hi : i' = i
    · subst hi; rw [hs] at h1; exact hsep b h1 h2
    · rw [hu i' hi] at h1; rw [hoth i' hi] at h2; exact h.sep i' b h1 h2
  · rw [hO] at hb
    obtain ⟨a1, a2⟩ := h.olt b hb
    exact ⟨Nat.lt_of_lt_of_le a1 hm.size, a2⟩

theorem Mem.lt {N : Nat} {w : World} {η : Nat → Ent} {m : MM} (h : Mem N w η m) {i b : Nat} (hi : (η i).blk ≠ none) (hb : m i = some b) : b < w.heap.size := by
  cases hB : (η i).blk with
  | none => exact absurd hB hi
  | some B =>
    have := h.ok i B hB
    rw [hb] at this
    obtain ⟨arr, h1, _⟩ := this
    exact lt_of_block h1

/-- cells of an element list, flat -/
def Flat (w : World) (vs : Shp) (m : MM) (sz : Nat) (els : List (List AV)) (arr : Array Value) : Prop :=
  els.length * sz ≤ arr.size ∧ ∀ (k : Nat) (e : List AV), els[k]? = some e → e.length = sz ∧ ∀ (j : Nat) (x : AV), e[j]? = some x → ∃ v, arr[k * sz + j]? = some v ∧ v.oneCell' = true ∧ RV w vs m x v

def newM (m : MM) (i : Nat) (b : Option Nat) : MM := ⟨fun k => if k = i then b else m k, m.O⟩
theorem newM_same (m : MM) (i : Nat) (b : Option Nat) : newM m i b i = b := by simp [newM]
theorem newM_other (m : MM) {i k : Nat} (b : Option Nat) (h : k ≠ i) : newM m i b k = m k := by simp [newM, h]

theorem mono_fresh {N : Nat} {w : World} {η : Nat → Ent} {m : MM} (hmem : Mem N w η m) {i : Nat} {e' : Ent} {w' : World} (hg : w.grownBy w' none) (hv : (η i).ver < e'.ver) {b' : Option Nat} (hb' : ∀ b, b' = some b → w.heap.size ≤ b) :
    Mono w (shp η) m w' (shp (updE η i e')) (newM m i b') := by
  refine ⟨hg.size, fun b hb _ => hg.block b hb (by simp), fun b hb ho => ?_, fun k => ?_, fun k hk => ?_⟩
  · rintro (h1 | ⟨k, h1, h2⟩)
    · exact ho (.inl h1)
    by_cases hk : k = i
    · subst hk; rw [newM_same] at h2; have := hb' b h2; omega
    · rw [newM_other _ _ hk] at h2
      exact ho (.inr ⟨k, by simpa [shp, updE, hk] using h1, h2⟩)
  · by_cases hk : k = i
    · subst hk; simp only [shp, updE, if_true]; omega
    · simp [shp, updE, hk]
  · by_cases hki : k = i
    · subst hki; simp only [shp, updE, if_true] at hk; omega
    · refine ⟨by simp [shp, updE, hki], fun hl => ⟨newM_other _ _ hki, fun b hb => ?_⟩⟩
      unfold World.shape?
      rw [hg.block b (hmem.lt (blk_live.1 hl) hb) (by simp)]

theorem Kin.grown {w' : World} {row : Option Nat} (h : Kin w0 X.X w) (hg : w.grownBy w' row) (hr : ∀ b, row = some b → X b ∨ w0.heap.size ≤ b) : Kin w0 X.X w' := by
  refine ⟨hg.os.trans h.os, hg.tape.trans h.tape, hg.output.trans h.output, Nat.le_trans h.size hg.size, fun b hb hx => ?_⟩
  rw [hg.block b (Nat.lt_of_lt_of_le hb h.size) (fun e => ?_), h.block b hb hx]
  rcases hr b e.symm with h1 | h1
  · exact hx h1
  · omega

theorem Flat.mono {w w' : World} {vs vs' : Shp} {m m' : MM} {sz : Nat} {els : List (List AV)} {arr : Array Value} (h : Flat w vs m sz els arr) (hm : Mono w vs m w' vs' m') : Flat w' vs' m' sz els arr := by
  refine ⟨h.1, fun k e he => ⟨(h.2 k e he).1, fun j x hx => ?_⟩⟩
  obtain ⟨v, e1, e2, e3⟩ := (h.2 k e he).2 j x hx
  exact ⟨v, e1, e2, e3.mono hm⟩
theorem grown_row {w w' : World} (hg : w.grownBy w' none) (row : Option Nat) : w.grownBy w' row := ⟨hg.os, hg.tape, hg.output, hg.size, fun k hk _ => hg.block k hk (by simp)⟩

theorem Rep.fresh (h : Rep C n w0 X τ η m a w) {i ver : Nat} {B : Blk} (hv : (η i).ver < ver) {arr : Array Value} (hf : Flat w (shp η) m B.sz B.els arr) :
    Rep C n w0 X τ (updE η i ⟨ver, some B⟩) (newM m i (some w.heap.size)) a (w.alloc (.cells arr B.ty)) := by
  have hg := World.grownBy_alloc w (.cells arr B.ty) none
  have hm : Mono w (shp η) m (w.alloc (.cells arr B.ty)) (shp (updE η i ⟨ver, some B⟩)) (newM m i (some w.heap.size)) := mono_fresh h.mem hg hv (fun b e => by injection e with e; omega)
  refine h.move hm (h.mem.upd hm (fun i' hi => newM_other _ _ hi) (fun i' b _ hl hb => hg.block b (h.mem.lt hl hb) (by simp)) (fun B' hB' => ?_) (fun i' b _ hl hb _ => ?_) (fun b _ hb => ?_) rfl (fun b _ hb ho => ?_)) (h.kin.grown hg (fun b e => by cases e)) rfl (fun i' b hl hb => ?_)
  · injection hB' with hB'
    subst hB'
    rw [newM_same]
    exact ⟨arr, heap_alloc_new w _, (hf.mono hm).1, (hf.mono hm).2⟩
  · rw [newM_same]
    intro e
    injection e with e
    have := h.mem.lt hl hb
    omega
  · rw [newM_same] at hb
    injection hb with hb
    have := h.mem.big
    omega
  · rw [newM_same] at hb
    injection hb with hb
    have := (h.mem.olt b ho).1
    omega
  · by_cases hi : i' = i
    · subst hi
      rw [newM_same] at hb
      injection hb with hb
      have := h.kin.size
      exact .inr (by omega)
    · rw [newM_other _ _ hi] at hb
      exact h.own i' b (by simpa [updE, hi] using hl) hb

theorem shp_upd {η : Nat → Ent} {i ver : Nat} {B B' : Blk} (hi : η i = ⟨ver, some B⟩) (hs : B'.sz = B.sz) : shp (updE η i ⟨ver, some B'⟩) = shp η := by
  funext k
  by_cases hk : k = i
  · subst hk; simp [shp, updE, hi, hs]
  · simp [shp, updE, hk]

theorem Rep.write (h : Rep C n w0 X τ η m a w) {i ver b : Nat} {B : Blk} {els' : List (List AV)} {arr arr' : Array Value} (hi : η i = ⟨ver, some B⟩) (hb : m i = some b) (hh : w.heap[b]? = some (.cells arr B.ty (0, 0)))
    (hsz : arr'.size = arr.size) (hf : Flat w (shp η) m B.sz els' arr') : Rep C n w0 X τ (updE η i ⟨ver, some { B with els := els' }⟩) m a (w.setRow b arr') := by
  have hl : (η i).blk ≠ none := by rw [hi]; simp
  have hg := setRow_grown w b arr'
  have hs : shp (updE η i ⟨ver, some { B with els := els' }⟩) = shp η := shp_upd hi rfl
  have hsh : ∀ b', (w.setRow b arr').shape? b' = w.shape? b' := by
    intro b'
    unfold World.shape?
    by_cases e : b' = b
    · subst e; rw [setRow_heap w b' arr arr' B.ty (0, 0) hh, hh]; simp [hsz]
    · rw [setRow_other w b b' arr' e]
  have hm : Mono w (shp η) m (w.setRow b arr') (shp (updE η i ⟨ver, some { B with els := els' }⟩)) m := by
    rw [hs]
    refine ⟨hg.size, fun b' hb' ho => hg.block b' hb' (fun e => ?_), fun _ _ h => h, fun _ => Nat.le_refl _, fun _ _ => ⟨rfl, fun _ => ⟨rfl, fun b' _ => hsh b'⟩⟩⟩
    injection e with e
    subst e
    exact ho (.inr ⟨i, blk_live.2 hl, hb⟩)
  refine h.move hm (h.mem.upd hm (fun _ _ => rfl) (fun i' b' hi' hl' hb' => hg.block b' (h.mem.lt hl' hb') (fun e => ?_)) (fun B' hB' => ?_) (fun i' b' hi' hl' hb' _ e => ?_) (fun b' _ hb' => h.mem.low i b' hl hb') rfl (fun b' _ hb' => h.mem.sep i b' hl hb')) (h.kin.grown hg (fun b' e => ?_)) rfl (fun i' b' hl' hb' => ?_)
  · injection e with e
    subst e
    exact hi' (h.mem.inj i' i b' hl' hl hb' hb)
  · injection hB' with hB'
    subst hB'
    rw [hb]
    exact ⟨arr', setRow_heap w b arr arr' B.ty (0, 0) hh, (hf.mono hm).1, (hf.mono hm).2⟩
  · exact hi' (h.mem.inj i' i b' hl' hl hb' e)
  · injection e with e
    subst e
    exact h.own i b hl hb
  · by_cases e : i' = i
    · subst e; exact h.own i' b' hl hb'
    · exact h.own i' b' (by simpa [updE, e] using hl') hb'

theorem mul_lt_of {k k' j sz : Nat} (h : k' < k) (hj : j < sz) : k' * sz + j < k * sz := by
  have := Nat.mul_le_mul_right sz (Nat.succ_le_of_lt h)
  rw [Nat.succ_mul] at this
  omega
theorem Flat.store {w : World} {vs : Shp} {m : MM} {sz k j : Nat} {els : List (List AV)} {e xs : List AV} {arr : Array Value} {us : List Value} (h : Flat w vs m sz els arr) (he : els[k]? = some e) (hj : j + xs.length ≤ sz)
    (hl : xs.length = us.length) (hr : ∀ (t : Nat) (x : AV), xs[t]? = some x → ∃ u, us[t]? = some u ∧ u.oneCell' = true ∧ RV w vs m x u) :
    Flat w vs m sz (els.set k (e.take j ++ xs ++ e.drop (j + xs.length))) (arr.toList.take (k * sz + j) ++ us ++ arr.toList.drop (k * sz + j + us.length)).toArray ∧
      k * sz + j + us.length ≤ arr.size ∧ (arr.toList.take (k * sz + j) ++ us ++ arr.toList.drop (k * sz + j + us.length)).toArray.size = arr.size := by
  have hk : k < els.length := (List.getElem?_eq_some_iff.1 he).1
  have hlen : e.length = sz := (h.2 k e he).1
  have hroom : k * sz + sz ≤ arr.size := by
    have h1 := Nat.mul_le_mul_right sz (Nat.succ_le_of_lt hk)
    rw [Nat.succ_mul] at h1
    have := h.1
    omega
  have hs : (arr.toList.take (k * sz + j) ++ us ++ arr.toList.drop (k * sz + j + us.length)).toArray.size = arr.size := by simp; omega
  refine ⟨⟨by rw [List.length_set, hs]; exact h.1, fun k' e' he' => ?_⟩, by omega, hs⟩
  have hget : ∀ p, (arr.toList.take (k * sz + j) ++ us ++ arr.toList.drop (k * sz + j + us.length)).toArray[p]? = if p < k * sz + j then arr[p]? else if p < k * sz + j + us.length then us[p - (k * sz + j)]? else arr[p]? := by
    intro p
    have ht : (arr.toList.take (k * sz + j)).length = k * sz + j := by simp; omega
    rw [List.getElem?_toArray]
    by_cases h1 : p < k * sz + j
    · rw [if_pos h1, List.append_assoc, List.getElem?_append_left (by omega), List.getElem?_take, if_pos h1]; simp
    · rw [if_neg h1]
      by_cases h2 : p < k * sz + j + us.length
      · rw [if_pos h2, List.append_assoc, List.getElem?_append_right (by omega), ht, List.getElem?_append_left (by omega)]
      · rw [if_neg h2, List.getElem?_append_right (by simp; omega), List.getElem?_drop]
        have : (arr.toList.take (k * sz + j) ++ us).length = k * sz + j + us.length := by rw [List.length_append, ht]
        rw [this, show k * sz + j + us.length + (p - (k * sz + j + us.length)) = p from by omega]
        simp
  by_cases hkk : k' = k
  · subst hkk
    rw [List.getElem?_set_self hk] at he'
    injection he' with he'
    subst he'
    refine ⟨by simp; omega, fun t x hx => ?_⟩
    rw [hget]
    have ht : (e.take j).length = j := by simp; omega
    by_cases h1 : t < j
    · rw [if_pos (by omega)]
      rw [List.append_assoc, List.getElem?_append_left (by omega), List.getElem?_take, if_pos h1] at hx
      exact (h.2 k' e he).2 t x hx
    · rw [if_neg (by omega)]
      by_cases h2 : t < j + xs.length
      · rw [if_pos (by omega)]
        rw [List.append_assoc, List.getElem?_append_right (by omega), ht, List.getElem?_append_left (by omega)] at hx
        obtain ⟨u, u1, u2, u3⟩ := hr _ x hx
        exact ⟨u, by rw [show k' * sz + t - (k' * sz + j) = t - j from by omega]; exact u1, u2, u3⟩
      · rw [if_neg (by omega)]
        rw [List.getElem?_append_right (by simp; omega), List.getElem?_drop] at hx
        have hq : (e.take j ++ xs).length = j + xs.length := by rw [List.length_append, ht]
        rw [hq, show j + xs.length + (t - (j + xs.length)) = t from by omega] at hx
        exact (h.2 k' e he).2 t x hx
  · rw [List.getElem?_set_ne (fun e => hkk e.symm)] at he'
    refine ⟨(h.2 k' e' he').1, fun t x hx => ?_⟩
    have ht : t < sz := by rw [← (h.2 k' e' he').1]; exact (List.getElem?_eq_some_iff.1 hx).1
    rw [hget]
    rcases Nat.lt_or_gt_of_ne hkk with hlt | hgt
    · rw [if_pos (by have := mul_lt_of hlt ht; omega)]
      exact (h.2 k' e' he').2 t x hx
    · have h0 := Nat.mul_le_mul_right sz (Nat.succ_le_of_lt hgt)
      rw [Nat.succ_mul] at h0
      rw [if_neg (by omega), if_neg (by omega)]
      exact (h.2 k' e' he').2 t x hx
end

section
variable {C : Cx} {n : Nat} {w0 : World} {X : XX} {τ : Nat → AV} {η : Nat → Ent} {m : MM} {a : Act} {w : World}

theorem Rep.rowed (h : Rep C n w0 X τ η m a w) {i ver' E sz len' : Nat} {v v' : Value} {w' : World} {els' : List (List AV)} {cells' : List Value} (hsrc : v.ownBlock = none ∨ ((η i).blk ≠ none ∧ m i = v.ownBlock))
    (hver : (η i).ver < ver') (hrow' : w'.ownsRow 0 E sz v' len' cells') (hg : w.grownBy w' v.ownBlock) (hb' : v'.ownBlock = v.ownBlock ∨ v'.ownBlock = some w.heap.size) (hf : Flat w (shp η) m sz els' cells'.toArray) (hl : els'.length = len') :
    Rep C n w0 X τ (updE η i ⟨ver', some ⟨E, sz, false, els'⟩⟩) (newM m i v'.ownBlock) a w' ∧ RV w' (shp (updE η i ⟨ver', some ⟨E, sz, false, els'⟩⟩)) (newM m i v'.ownBlock) (.own i ver' 0 len') v' := by
  have hvi : ∀ b, v.ownBlock = some b → (η i).blk ≠ none ∧ m i = some b := fun b hb => by
    rcases hsrc with h1 | ⟨h1, h2⟩
    · rw [h1] at hb; cases hb
    · exact ⟨h1, by rw [h2, hb]⟩
  have hother : ∀ i' b, i' ≠ i → (η i').blk ≠ none → m i' = some b → w'.heap[b]? = w.heap[b]? := fun i' b hi' hl' hb => hg.block b (h.mem.lt hl' hb) (fun e => by
    obtain ⟨h1, h2⟩ := hvi b e.symm
    exact hi' (h.mem.inj i' i b hl' h1 hb h2))
  have hm : Mono w (shp η) m w' (shp (updE η i ⟨ver', some ⟨E, sz, false, els'⟩⟩)) (newM m i v'.ownBlock) := by
    refine ⟨hg.size, fun b hb ho => hg.block b hb (fun e => ?_), fun b hb ho => ?_, fun k => ?_, fun k hk => ?_⟩
    · obtain ⟨h1, h2⟩ := hvi b e.symm
      exact ho (.inr ⟨i, blk_live.2 h1, h2⟩)
    · rintro (h1 | ⟨k, h1, h2⟩)
      · exact ho (.inl h1)
      by_cases hk : k = i
      · subst hk
        rw [newM_same] at h2
        rcases hb' with e | e
        · obtain ⟨h3, h4⟩ := hvi b (by rw [← e, h2])
          exact ho (.inr ⟨k, blk_live.2 h3, h4⟩)
        · rw [e] at h2; injection h2 with h2; omega
      · rw [newM_other _ _ hk] at h2
        exact ho (.inr ⟨k, by simpa [shp, updE, hk] using h1, h2⟩)
    · by_cases hk : k = i
      · subst hk; simp only [shp, updE, if_true]; omega
      · simp [shp, updE, hk]
    · by_cases hki : k = i
      · subst hki; simp only [shp, updE, if_true] at hk; omega
      · refine ⟨by simp [shp, updE, hki], fun hl => ⟨newM_other _ _ hki, fun b hb => ?_⟩⟩
        unfold World.shape?
        rw [hother k b hki (blk_live.1 hl) hb]
  have hblk : ∀ b, v'.ownBlock = some b → X b ∨ w0.heap.size ≤ b := fun b hb => by
    rcases hb' with e | e
    · obtain ⟨h1, h2⟩ := hvi b (by rw [← e, hb])
      exact h.own i b h1 h2
    · rw [e] at hb; injection hb with hb; have := h.kin.size; exact .inr (by omega)
  have hR : Rep C n w0 X τ (updE η i ⟨ver', some ⟨E, sz, false, els'⟩⟩) (newM m i v'.ownBlock) a w' := by
    refine h.move hm (h.mem.upd hm (fun i' hi => newM_other _ _ hi) hother (fun B hB => ?_) (fun i' b hi' hl' hb2 _ => ?_) (fun b _ hb => ?_) rfl (fun b _ hb ho => ?_)) (h.kin.grown hg (fun b e => ?_)) rfl (fun i' b hl' hb => ?_)
    · injection hB with hB
      subst hB
      rw [newM_same]
      rcases hrow'.2 with ⟨rfl, h0⟩ | ⟨g, cap, cur, rfl, _, hh, hnc, _, hcs, htake⟩
      · exact ⟨List.length_eq_zero_iff.1 (by show els'.length = 0; omega), rfl⟩
      · have hf' := hf.mono hm
        have hlen := hrow'.1
        refine ⟨cur, hh, ?_, fun k e he => ⟨(hf'.2 k e he).1, fun j x hx => ?_⟩⟩
        · simp only
          rw [hcs, hl]
          exact Nat.mul_le_mul_right _ hnc
        · obtain ⟨u, u1, u2, u3⟩ := (hf'.2 k e he).2 j x hx
          refine ⟨u, ?_, u2, u3⟩
          rw [List.getElem?_toArray, ← htake, List.getElem?_take] at u1
          split at u1
          · simpa using u1
          · cases u1
    · rw [newM_same]
      intro e
      rcases hb' with e1 | e1
      · obtain ⟨h1, h2⟩ := hvi b (by rw [← e1, e])
        exact hi' (h.mem.inj i' i b hl' h1 hb2 h2)
      · rw [e1] at e; injection e with e; have := h.mem.lt hl' hb2; omega
    · rw [newM_same] at hb
      rcases hb' with e1 | e1
      · obtain ⟨h1, h2⟩ := hvi b (by rw [← e1, hb])
        exact h.mem.low i b h1 h2
      · rw [e1] at hb; injection hb with hb; have := h.mem.big; omega
    · rw [newM_same] at hb
      rcases hb' with e1 | e1
      · obtain ⟨h1, h2⟩ := hvi b (by rw [← e1, hb])
        exact h.mem.sep i b h1 h2 ho
      · rw [e1] at hb; injection hb with hb; have := (h.mem.olt b ho).1; omega
    · obtain ⟨h1, h2⟩ := hvi b e
      exact h.own i b h1 h2
    · by_cases hi : i' = i
      · subst hi; rw [newM_same] at hb; exact hblk b hb
      · rw [newM_other _ _ hi] at hb
        exact h.own i' b (by simpa [updE, hi] using hl') hb
  refine ⟨hR, ?_⟩
  have hvs : (shp (updE η i ⟨ver', some ⟨E, sz, false, els'⟩⟩)) i = (ver', some sz) := by simp [shp, updE]
  rcases hrow'.2 with ⟨rfl, h0⟩ | ⟨g, cap, cur, rfl, _, hh, hnc, hmx, hcs, _⟩
  · subst h0
    exact .ownN hvs (by rw [newM_same]; rfl)
  · have := RV.own (w := w') (vs := shp (updE η i ⟨ver', some ⟨E, sz, false, els'⟩⟩)) (m := newM m i (Value.slice (some ⟨g, 0, none⟩) len' cap).ownBlock) (i := i) (ver := ver') (k := 0) (b := g) (ty := E) (n := cur.size) hvs (by rw [newM_same]; rfl) hnc hmx (by simp [World.shape?, hh]) (by rw [Nat.zero_add, hcs])
    simpa using this

/-- the row behind a handle -/
theorem own_row {i ver len : Nat} {v : Value} {B : Blk} (hv : RV w (shp η) m (.own i ver 0 len) v) (hi : η i = ⟨ver, some B⟩) (hok : BlkOk w (shp η) m B (m i)) (hl : B.els.length = len) :
    ∃ xs, w.ownsRow 0 B.ty B.sz v len xs ∧ Flat w (shp η) m B.sz B.els xs.toArray ∧ m i = v.ownBlock := by
  have hs : (shp η) i = (ver, some B.sz) := by simp [shp, hi]
  have aux : ∀ (k : Nat), RV w (shp η) m (.own i ver k len) v → k = 0 → ∃ xs, w.ownsRow 0 B.ty B.sz v len xs ∧ Flat w (shp η) m B.sz B.els xs.toArray ∧ m i = v.ownBlock := by
    intro k hk h0
    cases hk with
    | ownS h1 => rw [hs] at h1; simp at h1
    | ownN h1 h2 =>
      rw [h2] at hok
      refine ⟨[], ⟨by simp, .inl ⟨rfl, rfl⟩⟩, ⟨by rw [hok.1]; simp, fun k e he => by rw [hok.1] at he; simp at he⟩, by rw [h2]; rfl⟩
    | ownZ h1 => omega
    | @own _ _ sz b _ _ cap ty nn h1 h2 h3 h4 h5 h6 =>
      subst h0
      rw [hs] at h1
      injection h1 with _ h1
      injection h1 with h1
      subst h1
      rw [h2] at hok
      obtain ⟨arr, a1, a2, a3⟩ := hok
      have h7 : arr.size = cap * B.sz := by
        simp only [World.shape?, a1] at h5
        injection h5 with h5
        injection h5 with _ h5
        rw [Nat.zero_add] at h6
        omega
      refine ⟨arr.toList.take (len * B.sz), ⟨by have := Nat.mul_le_mul_right B.sz h3; simp; omega, .inr ⟨b, cap, arr, by simp, Nat.zero_le _, a1, h3, h4, h7, rfl⟩⟩, ⟨by have := Nat.mul_le_mul_right B.sz h3; simp [hl]; omega, fun k e he => ⟨(a3 k e he).1, fun j x hx => ?_⟩⟩, by rw [h2]; rfl⟩
      obtain ⟨u, u1, u2, u3⟩ := (a3 k e he).2 j x hx
      refine ⟨u, ?_, u2, u3⟩
      have hj : j < B.sz := by rw [← (a3 k e he).1]; exact (List.getElem?_eq_some_iff.1 hx).1
      have hk := mul_lt_of (List.getElem?_eq_some_iff.1 he).1 hj
      rw [List.getElem?_toArray, List.getElem?_take, if_pos (by rw [hl] at hk; exact hk)]
      simpa using u1
  exact aux 0 hv rfl

theorem Flat.append {w : World} {vs : Shp} {m : MM} {sz : Nat} {A B : List (List AV)} {xs ys : List Value} (h1 : Flat w vs m sz A xs.toArray) (h2 : Flat w vs m sz B ys.toArray) (hx : xs.length = A.length * sz) : Flat w vs m sz (A ++ B) (xs ++ ys).toArray := by
  refine ⟨by have := h2.1; simp at this; simp [Nat.add_mul]; omega, fun k e he => ?_⟩
  rcases Nat.lt_or_ge k A.length with hk | hk
  · rw [List.getElem?_append_left hk] at he
    refine ⟨(h1.2 k e he).1, fun j x hx' => ?_⟩
    obtain ⟨u, u1, u2, u3⟩ := (h1.2 k e he).2 j x hx'
    have hj : j < sz := by rw [← (h1.2 k e he).1]; exact (List.getElem?_eq_some_iff.1 hx').1
    have := mul_lt_of hk hj
    refine ⟨u, ?_, u2, u3⟩
    rw [List.getElem?_toArray] at u1 ⊢
    rw [List.getElem?_append_left (by omega)]
    exact u1
  · rw [List.getElem?_append_right hk] at he
    refine ⟨(h2.2 _ e he).1, fun j x hx' => ?_⟩
    obtain ⟨u, u1, u2, u3⟩ := (h2.2 _ e he).2 j x hx'
    refine ⟨u, ?_, u2, u3⟩
    have hkk : k * sz = A.length * sz + (k - A.length) * sz := by rw [← Nat.add_mul]; congr 1; omega
    rw [List.getElem?_toArray] at u1 ⊢
    rw [List.getElem?_append_right (by omega), hx, hkk, show A.length * sz + (k - A.length) * sz + j - A.length * sz = (k - A.length) * sz + j from by omega]
    exact u1

theorem rv_c {v u : Value} {vs : Shp} (h : RV w vs m (.c v) u) : u = v := by cases h; rfl
theorem rv_agg {cs : List AV} {u : Value} {vs : Shp} (h : RV w vs m (.agg cs) u) : ∃ us : Array Value, u = .agg us ∧ cs.length = us.size ∧ ∀ (j : Nat) (x : AV) (v : Value), cs[j]? = some x → us[j]? = some v → RV w vs m x v := by
  cases h with
  | agg h1 h2 => exact ⟨_, rfl, h1, h2⟩
theorem rv_tup {cs : List AV} {u : Value} {vs : Shp} (h : RV w vs m (.tup cs) u) : ∃ us : Array Value, u = .tuple us ∧ cs.length = us.size ∧ ∀ (j : Nat) (x : AV) (v : Value), cs[j]? = some x → us[j]? = some v → RV w vs m x v := by
  cases h with
  | tup h1 h2 => exact ⟨_, rfl, h1, h2⟩
theorem rv_ptr {i ver k j : Nat} {u : Value} {B : Blk} (h : RV w (shp η) m (.ptr i ver k j) u) (hi : η i = ⟨ver, some B⟩) : ∃ b, m i = some b ∧ u = .pointer (some ⟨b, k * B.sz + j, none⟩) := by
  have hs : (shp η) i = (ver, some B.sz) := by simp [shp, hi]
  cases h with
  | ptrS h1 => rw [hs] at h1; simp at h1
  | ptr h1 h2 =>
    rw [hs] at h1
    injection h1 with _ h1
    injection h1 with h1
    exact ⟨_, h2, by rw [h1]⟩
theorem rv_own {i ver k len : Nat} {u : Value} {B : Blk} (h : RV w (shp η) m (.own i ver k len) u) (hi : η i = ⟨ver, some B⟩) :
    (k = 0 ∧ len = 0 ∧ m i = none ∧ u = .slice none 0 0) ∨ (∃ k' A, k = k' + 1 ∧ len = 0 ∧ u = .slice A 0 0) ∨
      ∃ b cap ty nn, m i = some b ∧ len ≤ cap ∧ cap ≤ maxLen ∧ w.shape? b = some (ty, nn) ∧ (k + cap) * B.sz = nn ∧ u = .slice (some ⟨b, k * B.sz, none⟩) len cap := by
  have hs : (shp η) i = (ver, some B.sz) := by simp [shp, hi]
  cases h with
  | ownS h1 => rw [hs] at h1; simp at h1
  | ownN h1 h2 => exact .inl ⟨rfl, rfl, h2, rfl⟩
  | ownZ h1 => exact .inr (.inl ⟨_, _, rfl, rfl, rfl⟩)
  | own h1 h2 h3 h4 h5 h6 =>
    rw [hs] at h1
    injection h1 with _ h1
    injection h1 with h1
    subst h1
    exact .inr (.inr ⟨_, _, _, _, h2, h3, h4, h5, h6, rfl⟩)
theorem rv_pim {e : List AV} {j : Nat} {u : Value} {vs : Shp} (h : RV w vs m (.pim e j) u) : ∃ (b off : Nat) (f : Nat → Value), u = .pointer (some ⟨b, off + j, none⟩) ∧ ¬ Owned vs m b ∧ b < w.heap.size ∧ (∀ (j : Nat) (x : AV), e[j]? = some x → w.cell? ⟨b, off + j, none⟩ = some (f j)) ∧ (∀ (j : Nat) (x : AV), e[j]? = some x → RV w vs m x (f j)) := by
  cases h with
  | pim h1 h2 h3 h4 => exact ⟨_, _, _, rfl, h1, h2, h3, h4⟩
theorem rv_sl {sz : Nat} {l : List (List AV)} {u : Value} {vs : Shp} (h : RV w vs m (.sl sz l) u) : ∃ (A : Option Addr) (cap b off : Nat) (f : Nat → Nat → Value), u = .slice A l.length cap ∧ (l ≠ [] → A = some ⟨b, off, none⟩ ∧ ¬ Owned vs m b ∧ b < w.heap.size) ∧ l.length ≤ cap ∧ l.length ≤ 140737488355328 ∧ (∀ (k : Nat) (e : List AV), l[k]? = some e → e.length = sz) ∧
    (∀ (k j : Nat) (e : List AV) (x : AV), l[k]? = some e → e[j]? = some x → w.cell? ⟨b, off + (k * sz + j), none⟩ = some (f k j) ∧ (f k j).oneCell' = true) ∧ (∀ (k j : Nat) (e : List AV) (x : AV), l[k]? = some e → e[j]? = some x → RV w vs m x (f k j)) ∧ FrL l := by
  cases h with
  | sl h1 h2 h3 h4 h5 h6 h7 => exact ⟨_, _, _, _, _, rfl, h1, h2, h3, h4, h5, h6, h7⟩
end

section
variable {P : Program} {t : TypeId} {ti : TI} {w : World}
theorem TyOk.size (h : TyOk P t ti) : (sizeOf t).run P w = .ok ti.sz w := by
  obtain ⟨i, h1, _, h3, _⟩ := info_parts h.info
  simp [sizeOf, typeInfo, h1, h3]
theorem TyOk.zeroV (h : TyOk P t ti) : (zeroValue t).run P w = .ok ti.zero w := by
  obtain ⟨i, h1, h2, _, _⟩ := info_parts h.info
  simp [zeroValue, typeInfo, h1, h2]
theorem TyOk.isAgg (h : TyOk P t ti) : (isAgg t).run P w = .ok ti.kind.agg w := by
  obtain ⟨d, h1, h2⟩ := h.und
  simp only [Go.isAgg, Sem.run_bind, run_underlying h1, Result.andThen_ok]
  cases hk : ti.kind <;> rw [hk] at h2 <;> cases d <;> simp [TK.fits, TK.agg] at h2 ⊢
theorem TyOk.sliceU {e : TypeId} (h : TyOk P t ti) (hk : ti.kind = .slice e) : P.underlying t = some (.slice e) := by
  obtain ⟨d, h1, h2⟩ := h.und
  rw [hk] at h2
  cases d <;> simp [TK.fits] at h2
  rw [h1, h2]
theorem TyOk.strU (h : TyOk P t ti) (hk : ti.kind = .str) : P.underlying t = some .string := by
  obtain ⟨d, h1, h2⟩ := h.und
  rw [hk] at h2
  cases d <;> simp [TK.fits] at h2
  exact h1
theorem TyOk.intU {k : IntKind} (h : TyOk P t ti) (hk : ti.kind = .int k) : P.underlying t = some (.int k) := by
  obtain ⟨d, h1, h2⟩ := h.und
  rw [hk] at h2
  cases d <;> simp [TK.fits] at h2
  rw [h1, h2]
theorem TyOk.boolU (h : TyOk P t ti) (hk : ti.kind = .bool) : P.underlying t = some .bool := by
  obtain ⟨d, h1, h2⟩ := h.und
  rw [hk] at h2
  cases d <;> simp [TK.fits] at h2
  exact h1
theorem TyOk.ifaceU (h : TyOk P t ti) (hk : ti.kind = .iface) : ∃ ms, P.underlying t = some (.interface ms) := by
  obtain ⟨d, h1, h2⟩ := h.und
  rw [hk] at h2
  cases d <;> simp [TK.fits] at h2
  exact ⟨_, h1⟩
theorem TyOk.structU {fs : List (Nat × TypeId)} (h : TyOk P t ti) (hk : ti.kind = .struct fs) : ∃ gs : Array Field, P.underlying t = some (.struct gs) ∧ gs.toList.map (fun g => (g.offset, g.type)) = fs := by
  obtain ⟨d, h1, h2⟩ := h.und
  rw [hk] at h2
  cases d <;> simp [TK.fits] at h2
  exact ⟨_, h1, by simpa using h2⟩
end

/-- an operation that yields a value and leaves the world alone -/
def Pure (C : Cx) (n : Nat) (o : Oper) (τ : Nat → AV) (η : Nat → Ent) (x : AV) : Prop :=
  ∀ w0 X m a w, Rep C n w0 X τ η m a w → ∃ v, (execOp a.eval o).run C.P w = .ok (.value v) w ∧ RV w (shp η) m x v

section
variable {C : Cx} {n : Nat} {o : Oper} {τ : Nat → AV} {η : Nat → Ent} {t : TypeId} {ti : TI}

theorem p_move {x : Operand} (ho : o.op = .move x ∨ o.op = .assign x) : Pure C n o τ η (evA τ x) := by
  intro w0 X m a w h
  refine ⟨a.eval x, ?_, h.ev x⟩
  rcases ho with ho | ho <;> simp [execOp, ho]

theorem run_loadVar_cells {P : Program} {w : World} {b off : Nat} {cs : List Value} (ht : TyOk P t ti) (hl : cs.length = ti.sz) (h1 : ti.kind.agg = false → ti.sz = 1) (hc : ∀ (j : Nat) (v : Value), cs[j]? = some v → w.cell? ⟨b, off + j, none⟩ = some v) :
    (loadVar t ⟨b, off, none⟩).run P w = .ok (if ti.kind.agg then .agg cs.toArray else cs.getD 0 undef) w := by
  cases hk : ti.kind.agg with
  | true =>
    have := run_loadCells_list (P := P) w ⟨b, off, none⟩ cs (fun j v hj => by rw [add_plain]; exact hc j v hj)
    rw [hl] at this
    simp [loadVar, ht.isAgg, ht.size, hk, this]
  | false =>
    have hs := h1 hk
    obtain ⟨v, rfl⟩ : ∃ v, cs = [v] := List.length_eq_one_iff.1 (by omega)
    have := hc 0 v rfl
    simp [loadVar, ht.isAgg, hk, load, Sem.run] at this ⊢
    rw [this]

/-- what a load yields out of an element -/
def cut (ti : TI) (e : List AV) (j : Nat) : AV := if ti.kind.agg then .agg ((e.drop j).take ti.sz) else e.getD j .dead

theorem cut_ok {w : World} {vs : Shp} {m : MM} {e : List AV} {f : Nat → Value} {j : Nat} (hj : j + ti.sz ≤ e.length) (h1 : ti.kind.agg = false → ti.sz = 1) (hr : ∀ (j : Nat) (x : AV), e[j]? = some x → RV w vs m x (f j)) :
    RV w vs m (cut ti e j) (if ti.kind.agg then .agg ((List.range ti.sz).map (fun k => f (j + k))).toArray else ((List.range ti.sz).map (fun k => f (j + k))).getD 0 undef) := by
  unfold cut
  cases hk : ti.kind.agg with
  | true =>
    simp only [if_true]
    refine .agg (by simp; omega) (fun k x u hx hu => ?_)
    rw [List.getElem?_take] at hx
    split at hx
    · rename_i hlt
      rw [List.getElem?_drop] at hx
      simp [hlt] at hu
      subst hu
      exact hr _ x hx
    · cases hx
  | false =>
    have hs := h1 hk
    simp only [Bool.false_eq_true, if_false]
    rw [hs]
    have hlt : j < e.length := by omega
    have := hr j e[j] (List.getElem?_eq_getElem hlt)
    simpa [List.getD_eq_getElem?_getD, List.getElem?_eq_getElem hlt] using this

theorem range_get {f : Nat → Value} {n q : Nat} {v : Value} (h : ((List.range n).map f)[q]? = some v) : q < n ∧ f q = v := by
  rw [List.getElem?_map] at h
  cases hq : (List.range n)[q]? with
  | none => rw [hq] at h; cases h
  | some z =>
    obtain ⟨h1, h2⟩ := List.getElem?_eq_some_iff.1 hq
    simp at h1 h2
    rw [hq] at h
    simp at h
    exact ⟨h1, by rw [h2]; exact h⟩

theorem p_load_own {x : Operand} {i ver k j : Nat} {B : Blk} {e : List AV} (ho : o.op = .load t x) (hx : evA τ x = .ptr i ver k j) (hi : η i = ⟨ver, some B⟩) (he : B.els[k]? = some e) (ht : TyOk C.P t ti) (h1 : ti.kind.agg = false → ti.sz = 1) (hj : j + ti.sz ≤ B.sz) :
    Pure C n o τ η (cut ti e j) := by
  intro w0 X m a w h
  have hv := h.ev x
  rw [hx] at hv
  obtain ⟨b, hb, hu⟩ := rv_ptr hv hi
  have hok := h.mem.ok i B (by rw [hi])
  rw [hb] at hok
  obtain ⟨arr, a1, a2, a3⟩ := hok
  obtain ⟨e1, e2⟩ := a3 k e he
  have hcell : ∀ (q : Nat) (y : AV), e[q]? = some y → w.cell? ⟨b, k * B.sz + q, none⟩ = some (arr.getD (k * B.sz + q) undef) ∧ RV w (shp η) m y (arr.getD (k * B.sz + q) undef) := by
    intro q y hq
    obtain ⟨v, v1, _, v3⟩ := e2 q y hq
    have : arr.getD (k * B.sz + q) undef = v := by simp [Array.getD_eq_getD_getElem?, v1]
    rw [this]
    exact ⟨by simp [World.cell?, a1, v1], v3⟩
  refine ⟨_, ?_, cut_ok (f := fun q => arr.getD (k * B.sz + q) undef) (by omega) h1 (fun q y hq => (hcell q y hq).2)⟩
  have := run_loadVar_cells (P := C.P) (w := w) (b := b) (off := k * B.sz + j) (cs := (List.range ti.sz).map (fun q => arr.getD (k * B.sz + (j + q)) undef)) ht (by simp) h1 (fun q v hq => by
    obtain ⟨hq1, hq2⟩ := range_get hq
    have hlt : j + q < e.length := by omega
    have := (hcell (j + q) _ (List.getElem?_eq_getElem hlt)).1
    rw [Nat.add_assoc, this, hq2])
  simp [execOp, ho, hu, Instr.loadAt, Instr.sureAddr, this]

theorem p_load_pim {x : Operand} {e : List AV} {j : Nat} (ho : o.op = .load t x) (hx : evA τ x = .pim e j) (ht : TyOk C.P t ti) (h1 : ti.kind.agg = false → ti.sz = 1) (hj : j + ti.sz ≤ e.length) :
    Pure C n o τ η (cut ti e j) := by
  intro w0 X m a w h
  have hv := h.ev x
  rw [hx] at hv
  obtain ⟨b, off, f, hu, _, _, hc, hr⟩ := rv_pim hv
  refine ⟨_, ?_, cut_ok (f := f) (by omega) h1 hr⟩
  have := run_loadVar_cells (P := C.P) (w := w) (b := b) (off := off + j) (cs := (List.range ti.sz).map (fun q => f (j + q))) ht (by simp) h1 (fun q v hq => by
    obtain ⟨hq1, hq2⟩ := range_get hq
    have hlt : j + q < e.length := by omega
    have := hc (j + q) _ (List.getElem?_eq_getElem hlt)
    rw [Nat.add_assoc, this, hq2])
  simp [execOp, ho, hu, Instr.loadAt, Instr.sureAddr, this]
end

/-- one cell -/
def oneA : AV → Bool
  | .c v => v.oneCell'
  | .agg _ | .tup _ | .dead => false
  | _ => true
theorem rv_one {w : World} {vs : Shp} {m : MM} {x : AV} {v : Value} (h : RV w vs m x v) (ho : oneA x = true) : v.oneCell' = true := by
  cases h <;> first | rfl | exact ho | (simp [oneA] at ho)
theorem cells_one {v : Value} (h : v.oneCell' = true) : v.cells = #[v] := by
  cases v <;> first | rfl | (simp [Value.oneCell'] at h)

def binV : BinOp → Value → Value → Option Value
  | .add, .int k a, .int k' b => if k = k' then some (.int k (k.wrap (a + b))) else none
  | .sub, .int k a, .int k' b => if k = k' then some (.int k (k.wrap (a - b))) else none
  | .mul, .int k a, .int k' b => if k = k' then some (.int k (k.wrap (a * b))) else none
  | .eql, .int k a, .int k' b => if k = k' then some (.bool (a == b)) else none
  | .neq, .int k a, .int k' b => if k = k' then some (.bool (a != b)) else none
  | .lss, .int k a, .int k' b => if k = k' then some (.bool (decide (a < b))) else none
  | .leq, .int k a, .int k' b => if k = k' then some (.bool (decide (a ≤ b))) else none
  | .gtr, .int k a, .int k' b => if k = k' then some (.bool (decide (a > b))) else none
  | .geq, .int k a, .int k' b => if k = k' then some (.bool (decide (a ≥ b))) else none
  | .eql, .string a, .string b => some (.bool (a.toList == b.toList))
  | .neq, .string a, .string b => some (.bool (!(a.toList == b.toList)))
  | .lss, .string a, .string b => some (.bool (Op.bytesLess a.toList b.toList))
  | .leq, .string a, .string b => some (.bool (Op.bytesLess a.toList b.toList || a.toList == b.toList))
  | .gtr, .string a, .string b => some (.bool (!(Op.bytesLess a.toList b.toList || a.toList == b.toList)))
  | .geq, .string a, .string b => some (.bool (!(Op.bytesLess a.toList b.toList)))
  | _, _, _ => none

section
variable {C : Cx} {n : Nat} {o : Oper} {τ : Nat → AV} {η : Nat → Ent} {t : TypeId} {ti : TI}

theorem p_bin {op : BinOp} {xt yt : TypeId} {x y : Operand} {u v r : Value} (ho : o.op = .binOp op xt x y yt) (hx : evA τ x = .c u) (hy : evA τ y = .c v) (hb : binV op u v = some r) : Pure C n o τ η (.c r) := by
  intro w0 X m a w h
  have h1 := h.ev x
  have h2 := h.ev y
  rw [hx] at h1
  rw [hy] at h2
  refine ⟨r, ?_, .c r⟩
  unfold binV at hb
  split at hb <;>
    first
      | (split at hb
         · rename_i hk
           subst hk
           injection hb with hb
           subst hb
           simp [execOp, ho, rv_c h1, rv_c h2, eqGuard, Go.binOp, Op.intArith, Op.intCmp]
         · cases hb)
      | (injection hb with hb
         subst hb
         simp [execOp, ho, rv_c h1, rv_c h2, eqGuard, Go.binOp, Op.stringOp])
      | cases hb

theorem run_equal_bool {P : Program} {w : World} {t : TypeId} {p q : Bool} (hu : P.underlying t = some .bool) : (Op.equal t (.bool p) (.bool q)).run P w = .ok (p == q) w := by
  show (Op.equalIn (9999 + 1) t (.bool p) (.bool q)).run P w = _
  rw [Op.equalIn]
  simp only [Sem.run_bind, run_underlying hu, Result.andThen_ok, Sem.run_pure]
theorem p_boolEq {op : BinOp} {xt yt : TypeId} {x y : Operand} {p q r : Bool} (ho : o.op = .binOp op xt x y yt) (hx : evA τ x = .c (.bool p)) (hy : evA τ y = .c (.bool q)) (ht : TyOk C.P xt ti) (hk : ti.kind = .bool) (hr : (op = .eql ∧ r = (p == q)) ∨ (op = .neq ∧ r = !(p == q))) : Pure C n o τ η (.c (.bool r)) := by
  intro w0 X m a w h
  have h1 := h.ev x
  have h2 := h.ev y
  rw [hx] at h1
  rw [hy] at h2
  refine ⟨_, ?_, .c _⟩
  rcases hr with ⟨rfl, rfl⟩ | ⟨rfl, rfl⟩ <;> simp [execOp, ho, rv_c h1, rv_c h2, eqGuard, Go.binOp, run_equal_bool (ht.boolU hk)]
/-- division -/
theorem p_div {xt yt : TypeId} {x y : Operand} {k : IntKind} {p q : Int} (ho : o.op = .binOp .quo xt x y yt) (hx : evA τ x = .c (.int k p)) (hy : evA τ y = .c (.int k q)) (h0 : q ≠ 0) : Pure C n o τ η (.c (.int k (k.wrap (p.tdiv q)))) := by
  intro w0 X m a w h
  have h1 := h.ev x
  have h2 := h.ev y
  rw [hx] at h1
  rw [hy] at h2
  exact ⟨_, by simp [execOp, ho, rv_c h1, rv_c h2, eqGuard, Go.binOp, Op.intDiv, h0], .c _⟩
theorem p_rem {xt yt : TypeId} {x y : Operand} {k : IntKind} {p q : Int} (ho : o.op = .binOp .rem xt x y yt) (hx : evA τ x = .c (.int k p)) (hy : evA τ y = .c (.int k q)) (h0 : q ≠ 0) : Pure C n o τ η (.c (.int k (p.tmod q))) := by
  intro w0 X m a w h
  have h1 := h.ev x
  have h2 := h.ev y
  rw [hx] at h1
  rw [hy] at h2
  exact ⟨_, by simp [execOp, ho, rv_c h1, rv_c h2, eqGuard, Go.binOp, Op.intDiv, h0], .c _⟩
theorem p_concat {xt yt : TypeId} {x y : Operand} {p q : ByteArray} (ho : o.op = .binOp .add xt x y yt) (hx : evA τ x = .c (.string p)) (hy : evA τ y = .c (.string q)) (h0 : p.size + q.size ≤ 9223372036854775807) : Pure C n o τ η (.c (.string (p ++ q))) := by
  intro w0 X m a w h
  have h1 := h.ev x
  have h2 := h.ev y
  rw [hx] at h1
  rw [hy] at h2
  refine ⟨_, ?_, .c _⟩
  have : ¬ (((p.size + q.size : Nat) : Int) > IntKind.i64.max) := by
    have e : IntKind.i64.max = 9223372036854775807 := by decide
    rw [e]
    omega
  simp only [execOp, ho, rv_c h1, rv_c h2, eqGuard, Go.binOp, Op.stringOp]
  simp only [this, if_false]
  simp

/-- an interface against the literal nil -/
def nilV : AV → Option Bool
  | .c .nilIface => some true
  | .ifc _ _ => some false
  | _ => none
theorem run_equal_nn {P : Program} {w : World} {t : TypeId} {ms : Array (String × TypeId)} (hu : P.underlying t = some (.interface ms)) : (Op.equal t .nilIface .nilIface).run P w = .ok true w := by
  show (Op.equalIn (9999 + 1) t .nilIface .nilIface).run P w = _
  rw [Op.equalIn]
  simp only [Sem.run_bind, run_underlying hu, Result.andThen_ok, Sem.run_pure]
theorem run_equal_in {P : Program} {w : World} {t d : TypeId} {z : Value} {ms : Array (String × TypeId)} (hu : P.underlying t = some (.interface ms)) : (Op.equal t (.iface d z) .nilIface).run P w = .ok false w := by
  show (Op.equalIn (9999 + 1) t (.iface d z) .nilIface).run P w = _
  rw [Op.equalIn]
  simp only [Sem.run_bind, run_underlying hu, Result.andThen_ok, Sem.run_pure]
theorem eqGuard_in {op : BinOp} {t : TypeId} {x y : Operand} {d : TypeId} {z : Value} : eqGuard op t x y (.iface d z) .nilIface = pure () := by cases op <;> rfl
theorem p_nil {op : BinOp} {xt yt : TypeId} {x : Operand} {z q : Bool} (ho : o.op = .binOp op xt x (.const .nilIface) yt) (hq : (op = .eql ∧ q = z) ∨ (op = .neq ∧ q = !z)) (hx : nilV (evA τ x) = some z) (ht : TyOk C.P xt ti) (hk : ti.kind = .iface) : Pure C n o τ η (.c (.bool q)) := by
  intro w0 X m a w h
  obtain ⟨ms, hu⟩ := ht.ifaceU hk
  have h1 := h.ev x
  have hcn : a.eval (.const .nilIface) = .nilIface := rfl
  refine ⟨_, ?_, .c _⟩
  unfold nilV at hx
  split at hx
  · rename_i e
    injection hx with hx
    subst hx
    rw [e] at h1
    rcases hq with ⟨rfl, rfl⟩ | ⟨rfl, rfl⟩ <;> simp [execOp, ho, rv_c h1, hcn, eqGuard_nil_constR, Go.binOp, run_equal_nn hu]
  · rename_i e
    injection hx with hx
    subst hx
    rw [e] at h1
    cases hv : a.eval x <;> rw [hv] at h1 <;> cases h1
    rcases hq with ⟨rfl, rfl⟩ | ⟨rfl, rfl⟩ <;> simp [execOp, ho, hv, hcn, eqGuard_in, Go.binOp, run_equal_in hu]
  · cases hx

theorem p_not {x : Operand} {xt : TypeId} {b : Bool} (ho : o.op = .unOp .not xt x) (hx : evA τ x = .c (.bool b)) : Pure C n o τ η (.c (.bool (!b))) := by
  intro w0 X m a w h
  have h1 := h.ev x
  rw [hx] at h1
  exact ⟨_, by simp [execOp, ho, rv_c h1, Op.unary], .c _⟩
theorem p_neg {x : Operand} {xt : TypeId} {k : IntKind} {p : Int} (ho : o.op = .unOp .neg xt x) (hx : evA τ x = .c (.int k p)) : Pure C n o τ η (.c (.int k (k.wrap (0 - p)))) := by
  intro w0 X m a w h
  have h1 := h.ev x
  rw [hx] at h1
  exact ⟨_, by simp [execOp, ho, rv_c h1, Op.unary, Op.intArith], .c _⟩
theorem p_pick {c x y : Operand} {b : Bool} (ho : o.op = .pick c x y) (hc : evA τ c = .c (.bool b)) : Pure C n o τ η (if b then evA τ x else evA τ y) := by
  intro w0 X m a w h
  have h1 := h.ev c
  rw [hc] at h1
  refine ⟨if b then a.eval x else a.eval y, by cases b <;> simp [execOp, ho, rv_c h1, asBool], ?_⟩
  cases b
  · exact h.ev y
  · exact h.ev x
theorem p_conv {src dst : TypeId} {x : Operand} {k : IntKind} {kd : IntKind} {p : Int} {ts : TI} (ho : o.op = .convert src dst x) (hx : evA τ x = .c (.int k p)) (hs : TyOk C.P src ts) (ht : TyOk C.P dst ti) (hk : ti.kind = .int kd) : Pure C n o τ η (.c (.int kd (kd.wrap p))) := by
  intro w0 X m a w h
  have h1 := h.ev x
  rw [hx] at h1
  obtain ⟨d, hd, _⟩ := hs.und
  exact ⟨_, by simp [execOp, ho, rv_c h1, convert, run_underlying hd, run_underlying (ht.intU hk), Conv.intToInt], .c _⟩
theorem p_conv_str {src dst : TypeId} {x : Operand} {p : ByteArray} {ts : TI} (ho : o.op = .convert src dst x) (hx : evA τ x = .c (.string p)) (hs : TyOk C.P src ts) (ht : TyOk C.P dst ti) (hk : ti.kind = .str) : Pure C n o τ η (.c (.string p)) := by
  intro w0 X m a w h
  have h1 := h.ev x
  rw [hx] at h1
  obtain ⟨d, hd, _⟩ := hs.und
  exact ⟨_, by simp [execOp, ho, rv_c h1, convert, run_underlying hd, run_underlying (ht.strU hk)], .c _⟩
theorem p_iface {xt : TypeId} {x : Operand} (ho : o.op = .makeInterface xt x) (ht : TyOk C.P xt ti) (hk : ti.kind ≠ .iface) (ho2 : ti.kind ≠ .other) : Pure C n o τ η (.ifc xt (evA τ x)) := by
  intro w0 X m a w h
  obtain ⟨d, hd, hf⟩ := ht.und
  refine ⟨_, ?_, .ifc (h.ev x)⟩
  simp only [execOp, ho, Instr.makeInterface, Sem.run_bind, run_underlying hd, Result.andThen_ok]
  cases d <;> first | (simp; done) | (exfalso; cases hkk : ti.kind <;> rw [hkk] at hf <;> simp [TK.fits] at hf <;> first | exact hk hkk | exact ho2 hkk)
theorem p_func {fn : Fn} {first cap : Array Operand} (ho : o.op = .makeFunc fn first cap) : Pure C n o τ η (.clo fn (first.toList.map (evA τ)) (cap.toList.map (evA τ))) := by
  intro w0 X m a w h
  have aux : ∀ (l : Array Operand) (j : Nat) (x : AV) (u : Value), (l.toList.map (evA τ))[j]? = some x → (l.map a.eval)[j]? = some u → RV w (shp η) m x u := by
    intro l j x u hx hu
    rw [List.getElem?_map] at hx
    rw [Array.getElem?_map] at hu
    cases hl : l[j]? with
    | none => rw [hl] at hu; cases hu
    | some q =>
      have hl' : l.toList[j]? = some q := by simpa using hl
      rw [hl'] at hx
      rw [hl] at hu
      simp at hx hu
      rw [← hx, ← hu]
      exact h.ev q
  exact ⟨_, by simp [execOp, ho, Instr.makeFunc], .clo (by simp) (aux first) (by simp) (aux cap)⟩
theorem p_extract {x : Operand} {j : Nat} {vs : List AV} {y : AV} (ho : o.op = .extract x j) (hx : evA τ x = .tup vs) (hj : vs[j]? = some y) : Pure C n o τ η y := by
  intro w0 X m a w h
  have h1 := h.ev x
  rw [hx] at h1
  obtain ⟨us, hu, hl, hr⟩ := rv_tup h1
  have hlt : j < us.size := by rw [← hl]; exact (List.getElem?_eq_some_iff.1 hj).1
  have hg : us[j]? = some us[j] := Array.getElem?_eq_getElem hlt
  exact ⟨us[j], by simp [execOp, ho, hu, Instr.extract, hg], hr j y _ hj hg⟩
theorem p_nilCheck_ptr {x : Operand} {i ver k j : Nat} {B : Blk} (ho : o.op = .nilCheck x) (hx : evA τ x = .ptr i ver k j) (hi : η i = ⟨ver, some B⟩) : Pure C n o τ η (.ptr i ver k j) := by
  intro w0 X m a w h
  have h1 := h.ev x
  rw [hx] at h1
  obtain ⟨b, _, hu⟩ := rv_ptr h1 hi
  rw [hu] at h1
  exact ⟨_, by simp [execOp, ho, hu], h1⟩
theorem p_nilCheck_pim {x : Operand} {e : List AV} {j : Nat} (ho : o.op = .nilCheck x) (hx : evA τ x = .pim e j) : Pure C n o τ η (.pim e j) := by
  intro w0 X m a w h
  have h1 := h.ev x
  rw [hx] at h1
  obtain ⟨b, off, f, hu, _⟩ := rv_pim h1
  rw [hu] at h1
  exact ⟨_, by simp [execOp, ho, hu], h1⟩

theorem run_fieldAt {P : Program} {w : World} {s : TypeId} {ts tf : TI} {fs : List (Nat × TypeId)} {f off ft : Nat} {p : Addr} (hs : TyOk P s ts) (hk : ts.kind = .struct fs) (hf : fs[f]? = some (off, ft)) (htf : TyOk P ft tf) (h0 : tf.sz ≠ 0) :
    (Instr.fieldAt s (.pointer (some p)) f).run P w = .ok (.pointer (some (p.add off))) w := by
  obtain ⟨gs, hu, hm⟩ := hs.structU hk
  rw [← hm, List.getElem?_map] at hf
  cases hg : gs.toList[f]? with
  | none => rw [hg] at hf; cases hf
  | some g =>
    rw [hg] at hf
    simp at hf
    have hg' : gs[f]? = some g := by simpa using hg
    obtain ⟨rfl, rfl⟩ := hf
    simp [Instr.fieldAt, run_underlying hu, hg', Instr.sureAddr, fieldPlace, htf.size, h0]
theorem p_field_own {s : TypeId} {ts tf : TI} {fs : List (Nat × TypeId)} {f off ft i ver k j : Nat} {x : Operand} {B : Blk} (ho : o.op = .fieldAddr s x f) (hx : evA τ x = .ptr i ver k j) (hi : η i = ⟨ver, some B⟩) (hs : TyOk C.P s ts) (hk : ts.kind = .struct fs)
    (hf : fs[f]? = some (off, ft)) (htf : TyOk C.P ft tf) (h0 : tf.sz ≠ 0) : Pure C n o τ η (.ptr i ver k (j + off)) := by
  intro w0 X m a w h
  have h1 := h.ev x
  rw [hx] at h1
  obtain ⟨b, hb, hu⟩ := rv_ptr h1 hi
  refine ⟨.pointer (some ⟨b, k * B.sz + (j + off), none⟩), ?_, .ptr (by simp [shp, hi]) hb⟩
  simp [execOp, ho, hu, run_fieldAt hs hk hf htf h0, add_plain, Nat.add_assoc]
theorem p_field_pim {s : TypeId} {ts tf : TI} {fs : List (Nat × TypeId)} {f off ft j : Nat} {x : Operand} {e : List AV} (ho : o.op = .fieldAddr s x f) (hx : evA τ x = .pim e j) (hs : TyOk C.P s ts) (hk : ts.kind = .struct fs)
    (hf : fs[f]? = some (off, ft)) (htf : TyOk C.P ft tf) (h0 : tf.sz ≠ 0) : Pure C n o τ η (.pim e (j + off)) := by
  intro w0 X m a w h
  have h1 := h.ev x
  rw [hx] at h1
  obtain ⟨b, bo, f', hu, h2, h3, h4, h5⟩ := rv_pim h1
  refine ⟨.pointer (some ⟨b, bo + (j + off), none⟩), ?_, .pim h2 h3 h4 h5⟩
  simp [execOp, ho, hu, run_fieldAt hs hk hf htf h0, add_plain, Nat.add_assoc]
theorem p_field {s : TypeId} {ts tf : TI} {fs : List (Nat × TypeId)} {f off ft : Nat} {x : Operand} {cs : List AV} (ho : o.op = .field s x f) (hx : evA τ x = .agg cs) (hs : TyOk C.P s ts) (hk : ts.kind = .struct fs)
    (hf : fs[f]? = some (off, ft)) (htf : TyOk C.P ft tf) (h1 : tf.kind.agg = false → tf.sz = 1) (hl : off + tf.sz ≤ cs.length) : Pure C n o τ η (cut tf cs off) := by
  intro w0 X m a w h
  have hv := h.ev x
  rw [hx] at hv
  obtain ⟨us, hu, hlen, hr⟩ := rv_agg hv
  obtain ⟨gs, hun, hm⟩ := hs.structU hk
  rw [← hm, List.getElem?_map] at hf
  cases hg : gs.toList[f]? with
  | none => rw [hg] at hf; cases hf
  | some g =>
    rw [hg] at hf
    simp at hf
    have hg' : gs[f]? = some g := by simpa using hg
    obtain ⟨rfl, rfl⟩ := hf
    have hr' : ∀ (j : Nat) (y : AV), cs[j]? = some y → RV w (shp η) m y (us.getD j undef) := fun j y hy => by
      have hlt : j < us.size := by rw [← hlen]; exact (List.getElem?_eq_some_iff.1 hy).1
      have hq : us[j]? = some us[j] := Array.getElem?_eq_getElem hlt
      have := hr j y _ hy hq
      simpa [Array.getD_eq_getD_getElem?, hq] using this
    refine ⟨_, ?_, cut_ok (f := fun j => us.getD j undef) hl h1 hr'⟩
    cases hka : tf.kind.agg with
    | true =>
      simp only [execOp, ho, hu, Instr.field, Sem.run_bind, run_underlying hun, Result.andThen_ok, hg', asAgg, part, htf.isAgg, htf.size, hka, Sem.run_pure, if_true]
      congr 3
      refine Array.ext (by simp; omega) (fun j a1 a2 => ?_)
      simp at a1 a2
      have hlt : g.offset + j < us.size := by omega
      simp [hlt]
    | false =>
      have hs1 := h1 hka
      have hlt : g.offset < us.size := by omega
      simp [execOp, ho, hu, Instr.field, run_underlying hun, hg', asAgg, part, htf.isAgg, hka, hs1, hlt]
end

section
variable {C : Cx} {n : Nat} {o : Oper} {τ : Nat → AV} {η : Nat → Ent} {t : TypeId} {ti : TI}

theorem p_at_sl {x y : Operand} {e : TypeId} {te : TI} {sz : Nat} {l : List (List AV)} {k : IntKind} {z : Int} {el : List AV} (ho : o.op = .indexAddr t x y) (hx : evA τ x = .sl sz l) (hy : evA τ y = .c (.int k z)) (ht : TyOk C.P t ti) (hk : ti.kind = .slice e)
    (hte : TyOk C.P e te) (hsz : te.sz = sz) (h0 : 0 ≤ z) (hel : l[z.toNat]? = some el) : Pure C n o τ η (.pim el 0) := by
  intro w0 X m a w h
  have h1 := h.ev x
  have h2 := h.ev y
  rw [hx] at h1
  rw [hy] at h2
  obtain ⟨A, cap, b, off, f, hu, hA, _, _, hlen, hc, hr, _⟩ := rv_sl h1
  have hlt : z.toNat < l.length := (List.getElem?_eq_some_iff.1 hel).1
  obtain ⟨rfl, hno, hb⟩ := hA (fun e => by rw [e] at hlt; simp at hlt)
  have hzl : z < l.length := by omega
  refine ⟨.pointer (some ⟨b, off + z.toNat * sz + 0, none⟩), ?_, .pim (f := fun j => f z.toNat j) hno hb (fun j x hj => ?_) (fun j x hj => hr _ j el x hel hj)⟩
  · simp [execOp, ho, hu, rv_c h2, Instr.indexAt, asIntOf, run_underlying (ht.sliceU hk), hte.size, h0, hzl, add_plain, hsz]
  · rw [Nat.add_assoc]
    exact (hc _ j el x hel hj).1
theorem p_at_own {x y : Operand} {e : TypeId} {te : TI} {i ver k0 len : Nat} {B : Blk} {k : IntKind} {z : Int} (ho : o.op = .indexAddr t x y) (hx : evA τ x = .own i ver k0 len) (hi : η i = ⟨ver, some B⟩) (hy : evA τ y = .c (.int k z)) (ht : TyOk C.P t ti) (hk : ti.kind = .slice e)
    (hte : TyOk C.P e te) (hsz : te.sz = B.sz) (h0 : 0 ≤ z) (h1 : z < len) : Pure C n o τ η (.ptr i ver (k0 + z.toNat) 0) := by
  intro w0 X m a w h
  have hv := h.ev x
  have h2 := h.ev y
  rw [hx] at hv
  rw [hy] at h2
  have hs : (shp η) i = (ver, some B.sz) := by simp [shp, hi]
  rcases rv_own hv hi with ⟨_, hl, _⟩ | ⟨_, _, _, hl, _⟩ | ⟨b, cap, ty, nn, e1, e2, e3, e4, e5, hu⟩
  · omega
  · omega
  · refine ⟨.pointer (some ⟨b, (k0 + z.toNat) * B.sz + 0, none⟩), ?_, .ptr hs e1⟩
    simp [execOp, ho, hu, rv_c h2, Instr.indexAt, asIntOf, run_underlying (ht.sliceU hk), hte.size, h0, h1, add_plain, hsz, Nat.add_mul]
theorem p_index_str {x y : Operand} {s : ByteArray} {k : IntKind} {z : Int} (ho : o.op = .index t x y) (hx : evA τ x = .c (.string s)) (hy : evA τ y = .c (.int k z)) (ht : TyOk C.P t ti) (hk : ti.kind = .str) (h0 : 0 ≤ z) (h1 : z < s.size) :
    Pure C n o τ η (.c (.int .u8 (s.data.getD z.toNat 0).toNat)) := by
  intro w0 X m a w h
  have hv := h.ev x
  have h2 := h.ev y
  rw [hx] at hv
  rw [hy] at h2
  have hlt : z.toNat < s.size := by omega
  refine ⟨_, ?_, .c _⟩
  have : s[z.toNat]? = some (s.data.getD z.toNat 0) := by
    have hq : z.toNat < s.data.size := hlt
    rw [getElem?_pos s z.toNat hlt]
    have e : s.data.getD z.toNat 0 = s.data[z.toNat] := by rw [Array.getD_eq_getD_getElem?, Array.getElem?_eq_getElem hq]; rfl
    rw [e]
    rfl
  simp [execOp, ho, rv_c hv, rv_c h2, Instr.index, asIntOf, run_underlying (ht.strU hk), h0, this]

def lenA : AV → Option Int
  | .sl _ l => some l.length
  | .own _ _ _ len => some len
  | .c (.string s) => some s.size
  | .c (.slice _ k _) => some k
  | _ => none
theorem p_len {x : Operand} {z : Int} (ho : o.op = .call { callee := .builtin .len, args := #[x], argTypes := #[t] }) (ht : TyOk C.P t ti) (hl : lenA (evA τ x) = some z)
    (hk : match evA τ x with
      | .c (.string _) => ti.kind = .str
      | .own i ver _ _ => (∃ e, ti.kind = .slice e) ∧ (η i).ver = ver
      | _ => ∃ e, ti.kind = .slice e) : Pure C n o τ η (.c (.int .i64 z)) := by
  intro w0 X m a w h
  have hv := h.ev x
  refine ⟨_, ?_, .c _⟩
  unfold lenA at hl
  split at hl
  · rename_i e
    rw [e] at hv hk
    obtain ⟨e', hk⟩ := hk
    injection hl with hl
    obtain ⟨A, cap, b, off, f, hu, _⟩ := rv_sl hv
    simp [execOp, ho, resolve, invoke, builtin, hu, Builtin.len_, run_underlying (ht.sliceU hk), goInt, ← hl]
  · rename_i e
    rw [e] at hv hk
    obtain ⟨⟨e', hk⟩, hver⟩ := hk
    injection hl with hl
    cases hu : a.eval x <;> rw [hu] at hv <;> cases hv
    · rename_i hh; simp [shp, hver] at hh
    all_goals simp [execOp, ho, resolve, invoke, builtin, hu, Builtin.len_, run_underlying (ht.sliceU hk), goInt, ← hl]
  · rename_i e
    rw [e] at hv hk
    injection hl with hl
    simp [execOp, ho, resolve, invoke, builtin, rv_c hv, Builtin.len_, run_underlying (ht.strU hk), goInt, ← hl]
  · rename_i e
    rw [e] at hv hk
    obtain ⟨e', hk⟩ := hk
    injection hl with hl
    simp [execOp, ho, resolve, invoke, builtin, rv_c hv, Builtin.len_, run_underlying (ht.sliceU hk), goInt, ← hl]
  · cases hl

/-- an operand that bounds a slice -/
def Bnd (τ : Nat → AV) (dflt : Nat) : Option Operand → Nat → Prop
  | none, k => k = dflt
  | some x, k => ∃ kk : IntKind, evA τ x = .c (.int kk (k : Int))
theorem run_bound {P : Program} {w : World} {v : Value} {kk : IntKind} {k y : Nat} {code : BoundsCode} (hv : v = .int kk (k : Int)) (h : k ≤ y) : (Instr.sliceBound v y code).run P w = .ok k w := by
  subst hv
  simp [Instr.sliceBound, asIntOf, show (k : Int) ≤ y from by omega]
theorem run_bounds {isS : Bool} {len cap : Nat} {lo hi : Option Operand} {l r : Nat} {w0 : World} {X : XX} {m : MM} {a : Act} {w : World} (h : Rep C n w0 X τ η m a w) (hlo : Bnd τ 0 lo l) (hhi : Bnd τ len hi r) (h1 : l ≤ r) (h2 : r ≤ cap) :
    (Instr.sliceBounds isS len cap (lo.map a.eval) (hi.map a.eval) none).run C.P w = .ok (l, r, cap) w := by
  have hval : ∀ (q : Operand) (kk : IntKind) (z : Int), evA τ q = .c (.int kk z) → a.eval q = .int kk z := fun q kk z e => by
    have := h.ev q
    rw [e] at this
    exact rv_c this
  cases hi with
  | none =>
    cases lo with
    | none => simp [Bnd] at hlo hhi; subst hlo hhi; simp [Instr.sliceBounds]
    | some q =>
      obtain ⟨kk, e⟩ := hlo
      simp [Bnd] at hhi
      subst hhi
      simp [Instr.sliceBounds, run_bound (hval q kk _ e) h1]
  | some p =>
    obtain ⟨kp, ep⟩ := hhi
    cases lo with
    | none => simp [Bnd] at hlo; subst hlo; simp [Instr.sliceBounds, run_bound (hval p kp _ ep) h2]
    | some q =>
      obtain ⟨kk, e⟩ := hlo
      simp [Instr.sliceBounds, run_bound (hval p kp _ ep) h2, run_bound (hval q kk _ e) h1]
theorem sliceAt_slice {P : Program} {w : World} {e : TypeId} {x : Value} {lo hi mx : Option Value} (hu : P.underlying t = some (.slice e)) : (Instr.sliceAt t x lo hi mx).run P w = (Instr.slice t x lo hi mx).run P w := by
  simp [Instr.sliceAt, run_underlying hu]
theorem p_slice_str {x : Operand} {lo hi : Option Operand} {s : ByteArray} {l r : Nat} (ho : o.op = .slice t x lo hi none) (hx : evA τ x = .c (.string s)) (ht : TyOk C.P t ti) (hk : ti.kind = .str) (hlo : Bnd τ 0 lo l) (hhi : Bnd τ s.size hi r) (h1 : l ≤ r) (h2 : r ≤ s.size) :
    Pure C n o τ η (.c (.string (s.extract l r))) := by
  intro w0 X m a w h
  have hv := h.ev x
  rw [hx] at hv
  refine ⟨_, ?_, .c _⟩
  simp [execOp, ho, rv_c hv, Instr.sliceAt, Instr.slice, run_underlying (ht.strU hk), run_bounds h hlo hhi h1 h2]
theorem p_slice_sl {x : Operand} {e : TypeId} {te : TI} {lo hi : Option Operand} {sz : Nat} {ls : List (List AV)} {l r : Nat} (ho : o.op = .slice t x lo hi none) (hx : evA τ x = .sl sz ls) (ht : TyOk C.P t ti) (hk : ti.kind = .slice e) (hte : TyOk C.P e te) (hsz : te.sz = sz)
    (hlo : Bnd τ 0 lo l) (hhi : Bnd τ ls.length hi r) (h1 : l ≤ r) (h2 : r ≤ ls.length) : Pure C n o τ η (.sl sz ((ls.take r).drop l)) := by
  intro w0 X m a w h
  have hv := h.ev x
  rw [hx] at hv
  obtain ⟨A, cap, b, off, f, hu, hA, hcap, hmax, hlen, hc, hr, hfr⟩ := rv_sl hv
  have hll : ((ls.take r).drop l).length = r - l := by simp; omega
  have hget : ∀ (k : Nat) (e : List AV), ((ls.take r).drop l)[k]? = some e → ls[l + k]? = some e := fun k e he => by
    rw [List.getElem?_drop, List.getElem?_take] at he
    split at he
    · exact he
    · cases he
  refine ⟨.slice (if cap = l then A else A.map (·.add (l * sz))) ((ls.take r).drop l).length (cap - l), ?_, .sl (b := b) (off := off + l * sz) (f := fun k j => f (l + k) j) (fun hne => ?_) (by omega) (by omega) (fun k e he => hlen _ e (hget k e he)) (fun k j e x he hj => ?_) (fun k j e x he hj => hr _ j e x (hget k e he) hj) (fun e he => hfr e (List.mem_of_mem_take (List.mem_of_mem_drop he)))⟩
  · rw [hll]
    simp [execOp, ho, hu, sliceAt_slice (ht.sliceU hk), Instr.slice, run_underlying (ht.sliceU hk), run_bounds (n := n) (isS := true) h hlo hhi h1 (Nat.le_trans h2 hcap), hte.size, hsz]
  · have hne' : 0 < r - l := by
      rw [← hll]
      exact List.length_pos_iff.2 hne
    obtain ⟨rfl, q2, q3⟩ := hA (fun e => by rw [e] at h2; simp at h2; omega)
    rw [if_neg (by omega)]
    exact ⟨by simp [add_plain], q2, q3⟩
  · have := hc _ j e x (hget k e he) hj
    rw [show off + l * sz + (k * sz + j) = off + ((l + k) * sz + j) from by rw [Nat.add_mul]; omega]
    exact this
theorem p_slice_own {x : Operand} {e : TypeId} {te : TI} {lo hi : Option Operand} {i ver k len l r : Nat} {B : Blk} (ho : o.op = .slice t x lo hi none) (hx : evA τ x = .own i ver k len) (hi' : η i = ⟨ver, some B⟩) (ht : TyOk C.P t ti) (hk : ti.kind = .slice e) (hte : TyOk C.P e te) (hsz : te.sz = B.sz)
    (hlo : Bnd τ 0 lo l) (hhi : Bnd τ len hi r) (h1 : l ≤ r) (h2 : r ≤ len) : Pure C n o τ η (.own i ver (k + l) (r - l)) := by
  intro w0 X m a w h
  have hv := h.ev x
  rw [hx] at hv
  have hs : (shp η) i = (ver, some B.sz) := by simp [shp, hi']
  have hrun : ∀ A cap, a.eval x = .slice A len cap → len ≤ cap → (execOp a.eval o).run C.P w = .ok (.value (.slice (if cap = l then A else A.map (·.add (l * B.sz))) (r - l) (cap - l))) w := by
    intro A cap hu hcap
    simp [execOp, ho, hu, sliceAt_slice (ht.sliceU hk), Instr.slice, run_underlying (ht.sliceU hk), run_bounds (n := n) (isS := true) h hlo hhi h1 (Nat.le_trans h2 hcap), hte.size, hsz]
  rcases rv_own hv hi' with ⟨rfl, rfl, e2, hu⟩ | ⟨k', A, rfl, rfl, hu⟩ | ⟨b, cap, ty, nn, e1, e2, e3, e4, e5, hu⟩
  · obtain rfl : l = 0 := by omega
    obtain rfl : r = 0 := by omega
    exact ⟨_, hrun none 0 hu (Nat.le_refl _), by simpa using RV.ownN hs e2⟩
  · obtain rfl : l = 0 := by omega
    obtain rfl : r = 0 := by omega
    exact ⟨_, hrun _ 0 hu (Nat.le_refl _), by simpa using RV.ownZ hs⟩
  · refine ⟨_, hrun _ cap hu e2, ?_⟩
    by_cases hcl : cap = l
    · rw [if_pos hcl]
      by_cases hl0 : l = 0
      · subst hl0
        obtain rfl : r = 0 := by omega
        have := RV.own (w := w) (vs := shp η) (m := m) (k := k) (len := 0) (cap := cap) hs e1 (by omega) e3 e4 e5
        simpa using this
      · obtain ⟨l', rfl⟩ : ∃ l', l = l' + 1 := ⟨l - 1, by omega⟩
        rw [show r - (l' + 1) = 0 from by omega, show cap - (l' + 1) = 0 from by omega, ← Nat.add_assoc]
        exact RV.ownZ hs
    · rw [if_neg hcl]
      have := RV.own (w := w) (vs := shp η) (m := m) (k := k + l) (len := r - l) (cap := cap - l) hs e1 (by omega) (by omega) e4 (by rw [← e5]; congr 1; omega)
      simpa [add_plain, Nat.add_mul] using this
end

/-- the cells of a value -/
def cellsA : AV → List AV
  | .agg cs => cs
  | .c (.agg us) => us.toList.map .c
  | x => [x]
def onesA (l : List AV) : Bool := l.all oneA
theorem cells_ok {w : World} {vs : Shp} {m : MM} {x : AV} {v : Value} (h : RV w vs m x v) (ho : onesA (cellsA x) = true) :
    (cellsA x).length = v.cells.size ∧ ∀ (j : Nat) (y : AV), (cellsA x)[j]? = some y → ∃ u, v.cells[j]? = some u ∧ u.oneCell' = true ∧ RV w vs m y u := by
  have one : cellsA x = [x] → (cellsA x).length = v.cells.size ∧ ∀ (j : Nat) (y : AV), (cellsA x)[j]? = some y → ∃ u, v.cells[j]? = some u ∧ u.oneCell' = true ∧ RV w vs m y u := by
    intro e
    rw [e] at ho ⊢
    have h1 : v.oneCell' = true := rv_one h (by simpa [onesA] using ho)
    rw [cells_one h1]
    refine ⟨by simp, fun j y hj => ?_⟩
    cases j with
    | zero => simp at hj; subst hj; exact ⟨v, by simp, h1, h⟩
    | succ j => simp at hj
  cases x with
  | agg cs =>
    obtain ⟨us, rfl, hl, hr⟩ := rv_agg h
    refine ⟨hl, fun j y hj => ?_⟩
    have hj' : cs[j]? = some y := hj
    have hlt : j < us.size := by rw [← hl]; exact (List.getElem?_eq_some_iff.1 hj').1
    have hq : us[j]? = some us[j] := Array.getElem?_eq_getElem hlt
    have hy := hr j y _ hj' hq
    exact ⟨us[j], hq, rv_one hy (List.all_eq_true.1 ho y (List.mem_of_getElem? hj')), hy⟩
  | c u =>
    have := rv_c h
    subst this
    cases v with
    | agg us =>
      refine ⟨by simp [cellsA, Value.cells], fun j y hj => ?_⟩
      have hj' : (us.toList.map AV.c)[j]? = some y := hj
      rw [List.getElem?_map] at hj'
      cases hq : us.toList[j]? with
      | none => rw [hq] at hj'; cases hj'
      | some q =>
        rw [hq] at hj'
        simp at hj'
        subst hj'
        have hy : RV w vs m (.c q) q := .c q
        exact ⟨q, by simpa [Value.cells] using hq, rv_one hy (List.all_eq_true.1 ho (.c q) (List.mem_of_getElem? hj)), hy⟩
    | _ => exact one rfl
  | _ => exact one rfl

section
variable {C : Cx} {n : Nat} {o : Oper} {τ : Nat → AV} {η : Nat → Ent} {t : TypeId} {ti : TI}

theorem flat_one {w : World} {vs : Shp} {m : MM} {x : AV} {v : Value} (h : RV w vs m x v) (ho : onesA (cellsA x) = true) : Flat w vs m (cellsA x).length [cellsA x] v.cells := by
  obtain ⟨h1, h2⟩ := cells_ok h ho
  refine ⟨by simp [h1], fun k e he => ?_⟩
  cases k with
  | zero => simp at he; subst he; exact ⟨rfl, fun j x hx => by simpa using h2 j x hx⟩
  | succ k => simp at he

theorem shp_new {η : Nat → Ent} {i ver : Nat} {B : Blk} : shp (updE η i ⟨ver, some B⟩) i = (ver, some B.sz) := by simp [shp, updE]

theorem s_box {x : Operand} {d : Nat} (ho : o.op = .box t x) (hd : o.dst = some d) (hn : d < n) (h1 : onesA (cellsA (evA τ x)) = true) :
    Step C n o τ η (putA τ o.dst (.ptr d ((η d).ver + 1) 0 0)) (updE η d ⟨(η d).ver + 1, some ⟨t, (cellsA (evA τ x)).length, true, [cellsA (evA τ x)]⟩⟩) := by
  intro w0 X m a w h
  have hf := flat_one (h.ev x) h1
  have hr := h.fresh (i := d) (ver := (η d).ver + 1) (B := ⟨t, (cellsA (evA τ x)).length, true, [cellsA (evA τ x)]⟩) (Nat.lt_succ_self _) hf
  have hrun : (execOp a.eval o).run C.P w = .ok (.value (.pointer (some ⟨w.heap.size, 0, none⟩))) (w.alloc (.cells (a.eval x).cells t)) := by
    simp [execOp, ho, Instr.box, newVar, newRow, newObj, Sem.run]
  unfold Oper.wp
  rw [hrun]
  refine ⟨_, hr.put (by rw [hd]; exact hn) ?_⟩
  have := RV.ptr (w := w.alloc (.cells (a.eval x).cells t)) (vs := shp (updE η d ⟨(η d).ver + 1, some ⟨t, (cellsA (evA τ x)).length, true, [cellsA (evA τ x)]⟩⟩)) (m := newM m d (some w.heap.size)) (k := 0) (j := 0) shp_new (newM_same _ _ _)
  simpa using this

theorem s_alloc {d : Nat} (ho : o.op = .alloc t) (hd : o.dst = some d) (hn : d < n) (ht : TyOk C.P t ti) (h1 : onesA (cellsA (.c ti.zero)) = true) :
    Step C n o τ η (putA τ o.dst (.ptr d ((η d).ver + 1) 0 0)) (updE η d ⟨(η d).ver + 1, some ⟨t, (cellsA (.c ti.zero)).length, true, [cellsA (.c ti.zero)]⟩⟩) := by
  intro w0 X m a w h
  have hf := flat_one (w := w) (vs := shp η) (m := m) (x := .c ti.zero) (v := ti.zero) (.c _) h1
  have hr := h.fresh (i := d) (ver := (η d).ver + 1) (B := ⟨t, (cellsA (.c ti.zero)).length, true, [cellsA (.c ti.zero)]⟩) (Nat.lt_succ_self _) hf
  have hrun : (execOp a.eval o).run C.P w = .ok (.value (.pointer (some ⟨w.heap.size, 0, none⟩))) (w.alloc (.cells ti.zero.cells t)) := by
    simp [execOp, ho, Instr.alloc, ht.zeroV, newVar, newRow, newObj, Sem.run]
  unfold Oper.wp
  rw [hrun]
  refine ⟨_, hr.put (by rw [hd]; exact hn) ?_⟩
  have := RV.ptr (w := w.alloc (.cells ti.zero.cells t)) (vs := shp (updE η d ⟨(η d).ver + 1, some ⟨t, (cellsA (.c ti.zero)).length, true, [cellsA (.c ti.zero)]⟩⟩)) (m := newM m d (some w.heap.size)) (k := 0) (j := 0) shp_new (newM_same _ _ _)
  simpa using this

/-- an element with cells xs laid over it from cell j on -/
def lay (e : List AV) (j : Nat) (xs : List AV) : List AV := e.take j ++ xs ++ e.drop (j + xs.length)

theorem s_store {x y : Operand} {i ver k j : Nat} {B : Blk} {e : List AV} (ho : o.op = .store t x y) (hd : o.dst = none) (hx : evA τ x = .ptr i ver k j) (hi : η i = ⟨ver, some B⟩) (he : B.els[k]? = some e) (ht : TyOk C.P t ti)
    (hl : (cellsA (evA τ y)).length = ti.sz) (h1 : onesA (cellsA (evA τ y)) = true) (hj : j + ti.sz ≤ B.sz) :
    Step C n o τ η τ (updE η i ⟨ver, some { B with els := B.els.set k (lay e j (cellsA (evA τ y))) }⟩) := by
  intro w0 X m a w h
  have hv := h.ev x
  rw [hx] at hv
  obtain ⟨b, hb, hu⟩ := rv_ptr hv hi
  have hok := h.mem.ok i B (by rw [hi])
  rw [hb] at hok
  obtain ⟨arr, a1, a2, a3⟩ := hok
  obtain ⟨c1, c2⟩ := cells_ok (h.ev y) h1
  have hfl : Flat w (shp η) m B.sz B.els arr := ⟨a2, a3⟩
  obtain ⟨f1, f2, f3⟩ := hfl.store (j := j) (xs := cellsA (evA τ y)) (us := (a.eval y).cells.toList) he (by omega) (by simp [c1]) (fun q z hq => by
    obtain ⟨u, u1, u2, u3⟩ := c2 q z hq
    exact ⟨u, by simpa using u1, u2, u3⟩)
  have hone : ∀ v ∈ (a.eval y).cells.toList, v.oneCell' = true := by
    intro v hv'
    obtain ⟨q, hq⟩ := List.getElem?_of_mem hv'
    have hlt : q < (cellsA (evA τ y)).length := by rw [c1]; simpa using (List.getElem?_eq_some_iff.1 hq).1
    obtain ⟨u, u1, u2, _⟩ := c2 q _ (List.getElem?_eq_getElem hlt)
    have : (a.eval y).cells.toList[q]? = some u := by simpa using u1
    rw [hq] at this
    injection this with this
    rw [this]
    exact u2
  have hst := run_storeCells_at C.P b (k * B.sz + j) B.ty (a.eval y).cells.toList 0 arr w a1 (by simpa using f2) hone
  have hrun : (execOp a.eval o).run C.P w = .ok .skip (w.setRow b (arr.toList.take (k * B.sz + j) ++ (a.eval y).cells.toList ++ arr.toList.drop (k * B.sz + j + (a.eval y).cells.toList.length)).toArray) := by
    simp only [Nat.add_zero] at hst
    have hsz : (a.eval y).cells.size = ti.sz := by rw [← c1, hl]
    simp only [execOp, ho, hu, Instr.storeAt, Instr.sureAddr, storeVar, Sem.run_bind, Sem.run_pure, Result.andThen_ok, ht.size, hsz, ne_eq, not_true, if_false, hst]
  have hr := h.write hi hb a1 f3 f1
  unfold Oper.wp
  rw [hrun]
  refine ⟨m, ?_⟩
  rw [hd]
  exact hr

/-- a slice of the call's own: its elements as they lie -/
theorem src_own {w : World} {m : MM} {i ver k len : Nat} {B : Blk} {v : Value} (hv : RV w (shp η) m (.own i ver k len) v) (hi : η i = ⟨ver, some B⟩) (hok : BlkOk w (shp η) m B (m i)) (hkl : k + len ≤ B.els.length) :
    ∃ A c news, v = .slice A len c ∧ Reads w w.heap.size B.sz A len news ∧ (∀ u ∈ news, u.oneCell' = true) ∧ Flat w (shp η) m B.sz ((B.els.drop k).take len) news.toArray := by
  rcases rv_own hv hi with ⟨rfl, rfl, _, rfl⟩ | ⟨k', A, rfl, rfl, rfl⟩ | ⟨b, cap, ty, nn, e1, e2, e3, e4, e5, rfl⟩
  · exact ⟨_, _, [], rfl, Reads.none_, by simp, by simp [Flat]⟩
  · exact ⟨_, _, [], rfl, Reads.none_, by simp, by simp [Flat]⟩
  · rw [e1] at hok
    obtain ⟨arr, a1, a2, a3⟩ := hok
    have hroom : (k + len) * B.sz ≤ arr.size := Nat.le_trans (Nat.mul_le_mul_right _ hkl) a2
    rw [Nat.add_mul] at hroom
    have hnl : ((arr.toList.drop (k * B.sz)).take (len * B.sz)).length = len * B.sz := by simp; omega
    have hget : ∀ q u, ((arr.toList.drop (k * B.sz)).take (len * B.sz))[q]? = some u → q < len * B.sz ∧ arr[k * B.sz + q]? = some u := fun q u hq => by
      rw [List.getElem?_take] at hq
      split at hq
      · rw [List.getElem?_drop] at hq; exact ⟨by assumption, by simpa using hq⟩
      · cases hq
    refine ⟨_, _, (arr.toList.drop (k * B.sz)).take (len * B.sz), rfl, ⟨hnl, fun _ => ⟨_, rfl, lt_of_block a1, fun q u hq => ?_⟩⟩, fun u hu => ?_, ⟨?_, fun q e he => ?_⟩⟩
    · rw [add_plain]
      simp [World.cell?, a1, (hget q u hq).2]
    · obtain ⟨q, hq⟩ := List.getElem?_of_mem hu
      obtain ⟨q1, q2⟩ := hget q u hq
      have hsz : 0 < B.sz := Nat.pos_of_ne_zero (fun e => by rw [e] at q1; simp at q1)
      have hdm := Nat.div_add_mod q B.sz
      have hd : q / B.sz < len := Nat.div_lt_of_lt_mul (by rw [Nat.mul_comm]; exact q1)
      have hml := Nat.mod_lt q hsz
      have hlt : k + q / B.sz < B.els.length := by omega
      obtain ⟨l1, l2⟩ := a3 _ _ (List.getElem?_eq_getElem hlt)
      have hm2 : q % B.sz < (B.els[k + q / B.sz]).length := by rw [l1]; exact hml
      obtain ⟨z, z1, z2, _⟩ := l2 (q % B.sz) _ (List.getElem?_eq_getElem hm2)
      have heq : (k + q / B.sz) * B.sz + q % B.sz = k * B.sz + q := by rw [Nat.add_mul, Nat.mul_comm (q / B.sz)]; omega
      rw [heq, q2] at z1
      injection z1 with z1
      rw [z1]
      exact z2
    · simp only [List.length_take, List.length_drop, List.size_toArray]
      have : min len (B.els.length - k) = len := by omega
      rw [this]
      simp
      omega
    · rw [List.getElem?_take] at he
      split at he
      · rename_i hql
        rw [List.getElem?_drop] at he
        obtain ⟨l1, l2⟩ := a3 _ e he
        refine ⟨l1, fun j x hx => ?_⟩
        obtain ⟨u, u1, u2, u3⟩ := l2 j x hx
        refine ⟨u, ?_, u2, u3⟩
        have hj : j < B.sz := by rw [← l1]; exact (List.getElem?_eq_some_iff.1 hx).1
        have := mul_lt_of hql hj
        rw [List.getElem?_toArray, List.getElem?_take, if_pos this, List.getElem?_drop]
        rw [Nat.add_mul] at u1
        simpa [Nat.add_assoc] using u1
      · cases he
theorem src_sl {w : World} {vs : Shp} {m : MM} {sz : Nat} {l : List (List AV)} {v : Value} (hv : RV w vs m (.sl sz l) v) :
    ∃ A c news, v = .slice A l.length c ∧ Reads w w.heap.size sz A l.length news ∧ (∀ u ∈ news, u.oneCell' = true) ∧ Flat w vs m sz l news.toArray := by
  obtain ⟨A, cap, b, off, f, rfl, hA, _, _, hlen, hc, hr, _⟩ := rv_sl hv
  have hget : ∀ q u, ((List.range (l.length * sz)).map (fun q => f (q / sz) (q % sz)))[q]? = some u → q < l.length * sz ∧ f (q / sz) (q % sz) = u := fun q u hq => range_get hq
  have hcell : ∀ q, q < l.length * sz → w.cell? ⟨b, off + q, none⟩ = some (f (q / sz) (q % sz)) ∧ (f (q / sz) (q % sz)).oneCell' = true := by
    intro q hq
    have hsz : 0 < sz := Nat.pos_of_ne_zero (fun e => by rw [e] at hq; simp at hq)
    have hdm := Nat.div_add_mod q sz
    have hd : q / sz < l.length := Nat.div_lt_of_lt_mul (by rw [Nat.mul_comm]; exact hq)
    have hml := Nat.mod_lt q hsz
    have h1 := List.getElem?_eq_getElem hd
    have hm2 : q % sz < (l[q / sz]).length := by rw [hlen _ _ h1]; exact hml
    have := hc _ _ _ _ h1 (List.getElem?_eq_getElem hm2)
    rw [show q / sz * sz + q % sz = q from by rw [Nat.mul_comm]; omega] at this
    exact this
  refine ⟨_, _, (List.range (l.length * sz)).map (fun q => f (q / sz) (q % sz)), rfl, ⟨by simp, fun hn => ?_⟩, fun u hu => ?_, ⟨by simp, fun k e he => ⟨hlen k e he, fun j x hx => ?_⟩⟩⟩
  · obtain ⟨rfl, _, hb⟩ := hA (fun e => by rw [e] at hn; simp at hn)
    refine ⟨_, rfl, hb, fun q u hq => ?_⟩
    obtain ⟨q1, q2⟩ := hget q u hq
    rw [add_plain, ← q2]
    exact (hcell q q1).1
  · obtain ⟨q, hq⟩ := List.getElem?_of_mem hu
    obtain ⟨q1, q2⟩ := hget q u hq
    rw [← q2]
    exact (hcell q q1).2
  · have hj : j < sz := by rw [← hlen k e he]; exact (List.getElem?_eq_some_iff.1 hx).1
    have hk := mul_lt_of (List.getElem?_eq_some_iff.1 he).1 hj
    have h1 : (k * sz + j) / sz = k := by rw [Nat.mul_comm, Nat.mul_add_div (by omega), Nat.div_eq_of_lt hj]; omega
    have h2 : (k * sz + j) % sz = j := by rw [Nat.mul_comm, Nat.mul_add_mod, Nat.mod_eq_of_lt hj]
    refine ⟨f k j, by simp [hk, h1, h2], (hc k j e x he hx).2, hr k j e x he hx⟩
end

section
variable {C : Cx} {n : Nat} {o : Oper} {τ : Nat → AV} {η : Nat → Ent} {t : TypeId} {ti : TI}

/-- a source of elements -/
def Src (η : Nat → Ent) (sz : Nat) (new : List (List AV)) : AV → Prop
  | .sl s l => s = sz ∧ new = l
  | .own i ver k len => ∃ B, η i = ⟨ver, some B⟩ ∧ B.sz = sz ∧ k + len ≤ B.els.length ∧ new = (B.els.drop k).take len
  | .c (.slice none 0 _) => new = []
  | _ => False
theorem src_ok {sz : Nat} {new : List (List AV)} {w0 : World} {X : XX} {m : MM} {a : Act} {w : World} (h : Rep C n w0 X τ η m a w) {y : Operand} (hs : Src η sz new (evA τ y)) :
    ∃ A c news, a.eval y = .slice A new.length c ∧ Reads w w.heap.size sz A new.length news ∧ (∀ u ∈ news, u.oneCell' = true) ∧ Flat w (shp η) m sz new news.toArray := by
  have hv := h.ev y
  unfold Src at hs
  split at hs
  · rename_i e
    rw [e] at hv
    obtain ⟨rfl, rfl⟩ := hs
    exact src_sl hv
  · rename_i i ver k len e
    rw [e] at hv
    obtain ⟨B, hi, rfl, hkl, rfl⟩ := hs
    have hl : ((B.els.drop k).take len).length = len := by simp; omega
    rw [hl]
    exact src_own hv hi (h.mem.ok i B (by rw [hi])) hkl
  · rename_i e
    rw [e] at hv
    subst hs
    exact ⟨_, _, [], by rw [rv_c hv]; rfl, Reads.none_, by simp, by simp [Flat]⟩
  · exact hs.elim

theorem s_append_own {x y : Operand} {e : TypeId} {te : TI} {i ver len : Nat} {B : Blk} {new : List (List AV)} (ho : o.op = .call { callee := .builtin .append, args := #[x, y], argTypes := #[t, t] }) (hd : InB n o.dst)
    (hx : evA τ x = .own i ver 0 len) (hi : η i = ⟨ver, some B⟩) (hlen : B.els.length = len) (hs : Src η B.sz new (evA τ y)) (ht : TyOk C.P t ti) (hk : ti.kind = .slice e) (hte : TyOk C.P e te) (hsz : te.sz = B.sz) (hty : B.ty = e) (hpos : 0 < B.sz)
    (hroom : (len + new.length) * te.bytes ≤ 140737488355328) (hmax : len + new.length ≤ 9223372036854775807) :
    Step C n o τ η (putA τ o.dst (.own i (ver + 1) 0 (len + new.length))) (updE η i ⟨ver + 1, some ⟨e, B.sz, false, B.els ++ new⟩⟩) := by
  intro w0 X m a w h
  have hv := h.ev x
  rw [hx] at hv
  obtain ⟨A, c, news, hy, hr, h1, hf⟩ := src_ok h hs
  obtain ⟨xs, hrow, hfx, hmi⟩ := own_row hv hi (h.mem.ok i B (by rw [hi])) hlen
  obtain ⟨i0, hi0, hz0, hz1, hz2⟩ := info_parts hte.info
  rw [hty] at hrow
  obtain ⟨v', w', hrun, g1, g2, g3⟩ := run_append_any (P := C.P) w 0 t o.type e i0 te.zero B.sz te.bytes (ht.sliceU hk) hi0 hz0 (by rw [hz1, hsz]) hz2 (by rw [hte.cells, hsz]) hpos (a.eval x) len xs hrow _ A new.length c news hr h1 (by simp only [maxLen]; exact hmax) hroom (Nat.zero_le _)
  obtain ⟨r1, r2⟩ := h.rowed (i := i) (ver' := ver + 1) (E := e) (sz := B.sz) (els' := B.els ++ new) (.inr ⟨by rw [hi]; simp, hmi⟩) (by rw [hi]; exact Nat.lt_succ_self _) g1 g2 g3 (Flat.append hfx hf (by rw [hrow.1, hlen])) (by simp [hlen])
  unfold Oper.wp
  simp only [execOp, ho, resolve, invoke, builtin, Sem.run_bind, Sem.run_pure, Result.andThen_ok, List.map_toArray, List.map_cons, List.map_nil, hy, hrun]
  exact ⟨_, r1.put hd r2⟩
theorem s_append_nil {x y : Operand} {e : TypeId} {te : TI} {i cc : Nat} {new : List (List AV)} (ho : o.op = .call { callee := .builtin .append, args := #[x, y], argTypes := #[t, t] }) (hd : o.dst = some i) (hn : i < n)
    (hx : evA τ x = .c (.slice none 0 cc)) (hcc : cc = 0) (hs : Src η te.sz new (evA τ y)) (ht : TyOk C.P t ti) (hk : ti.kind = .slice e) (hte : TyOk C.P e te) (hpos : 0 < te.sz)
    (hroom : new.length * te.bytes ≤ 140737488355328) (hmax : new.length ≤ 9223372036854775807) :
    Step C n o τ η (putA τ o.dst (.own i ((η i).ver + 1) 0 new.length)) (updE η i ⟨(η i).ver + 1, some ⟨e, te.sz, false, new⟩⟩) := by
  intro w0 X m a w h
  have hv := h.ev x
  rw [hx, hcc] at hv
  obtain ⟨A, c, news, hy, hr, h1, hf⟩ := src_ok h hs
  obtain ⟨i0, hi0, hz0, hz1, hz2⟩ := info_parts hte.info
  have hrow : w.ownsRow 0 e te.sz (a.eval x) 0 [] := by rw [rv_c hv]; exact World.ownsRow_nil _ _ _ _
  obtain ⟨v', w', hrun, g1, g2, g3⟩ := run_append_any (P := C.P) w 0 t o.type e i0 te.zero te.sz te.bytes (ht.sliceU hk) hi0 hz0 hz1 hz2 hte.cells hpos (a.eval x) 0 [] hrow _ A new.length c news hr h1 (by simp only [maxLen]; omega) (by simpa using hroom) (Nat.zero_le _)
  have ho1 : (a.eval x).ownBlock = none := by rw [rv_c hv]; rfl
  rw [Nat.zero_add, List.nil_append] at g1
  obtain ⟨r1, r2⟩ := h.rowed (i := i) (ver' := (η i).ver + 1) (E := e) (sz := te.sz) (els' := new) (.inl ho1) (Nat.lt_succ_self _) g1 g2 g3 hf rfl
  unfold Oper.wp
  simp only [execOp, ho, resolve, invoke, builtin, Sem.run_bind, Sem.run_pure, Result.andThen_ok, List.map_toArray, List.map_cons, List.map_nil, hy, hrun]
  exact ⟨_, r1.put (by rw [hd]; exact hn) r2⟩

/-- cells laid over an array -/
theorem fold_set (off : Nat) : ∀ (l : List Value) (k : Nat) (arr : Array Value), ((l.zipIdx k).foldl (fun cs (p : Value × Nat) => cs.setIfInBounds (off + p.2) p.1) arr).size = arr.size ∧
    ∀ q, q < arr.size → ((l.zipIdx k).foldl (fun cs (p : Value × Nat) => cs.setIfInBounds (off + p.2) p.1) arr)[q]? = if off + k ≤ q ∧ q < off + k + l.length then l[q - (off + k)]? else arr[q]?
  | [], k, arr => ⟨rfl, fun q _ => by simp; omega⟩
  | v :: r, k, arr => by
    obtain ⟨h1, h2⟩ := fold_set off r (k + 1) (arr.setIfInBounds (off + k) v)
    simp only [List.zipIdx_cons, List.foldl_cons]
    refine ⟨by rw [h1]; simp, fun q hq => ?_⟩
    rw [h2 q (by simpa using hq)]
    by_cases e : q = off + k
    · subst e
      rw [if_neg (by omega), if_pos (by simp), Array.getElem?_setIfInBounds_self_of_lt hq]
      simp
    · rw [Array.getElem?_setIfInBounds_ne (fun h => e h.symm)]
      by_cases hc : off + k ≤ q ∧ q < off + k + (v :: r).length
      · rw [if_pos (by simp at hc; omega), if_pos hc]
        obtain ⟨p, hp⟩ : ∃ p, q - (off + k) = p + 1 := ⟨q - (off + k) - 1, by omega⟩
        rw [hp, show q - (off + (k + 1)) = p from by omega]
        simp
      · rw [if_neg (by simp at hc; omega), if_neg hc]

/-- cells that stand for an element -/
def Sits (w : World) (vs : Shp) (m : MM) (e : List AV) (arr : Array Value) : Prop := e.length = arr.size ∧ ∀ (j : Nat) (x : AV), e[j]? = some x → ∃ u, arr[j]? = some u ∧ u.oneCell' = true ∧ RV w vs m x u
theorem sits_lay {w : World} {vs : Shp} {m : MM} {e xs : List AV} {arr us : Array Value} {off : Nat} (h : Sits w vs m e arr) (hx : Sits w vs m xs us) (ho : off + xs.length ≤ e.length) :
    Sits w vs m (lay e off xs) (us.zipIdx.foldl (fun cs (p : Value × Nat) => cs.setIfInBounds (off + p.2) p.1) arr) := by
  have hl : (lay e off xs).length = e.length := by simp [lay]; omega
  have hf : us.zipIdx.foldl (fun cs (p : Value × Nat) => cs.setIfInBounds (off + p.2) p.1) arr = (us.toList.zipIdx 0).foldl (fun cs (p : Value × Nat) => cs.setIfInBounds (off + p.2) p.1) arr := by
    rw [← Array.foldl_toList, Array.toList_zipIdx]
  obtain ⟨h1, h2⟩ := fold_set off us.toList 0 arr
  rw [hf]
  refine ⟨by rw [hl, h1, h.1], fun j x hj => ?_⟩
  have hj' : j < arr.size := by rw [← h.1, ← hl]; exact (List.getElem?_eq_some_iff.1 hj).1
  rw [h2 j hj']
  have ht : (e.take off).length = off := by simp; omega
  have hux : us.toList.length = xs.length := by simp [hx.1]
  unfold lay at hj
  by_cases c1 : j < off
  · rw [if_neg (by omega)]
    rw [List.append_assoc, List.getElem?_append_left (by omega), List.getElem?_take, if_pos c1] at hj
    exact h.2 j x hj
  · by_cases c2 : j < off + xs.length
    · rw [if_pos (by omega)]
      rw [List.append_assoc, List.getElem?_append_right (by omega), ht, List.getElem?_append_left (by omega)] at hj
      obtain ⟨u, u1, u2, u3⟩ := hx.2 _ x hj
      exact ⟨u, by simpa using u1, u2, u3⟩
    · rw [if_neg (by omega)]
      have hq : (e.take off ++ xs).length = off + xs.length := by rw [List.length_append, ht]
      rw [List.getElem?_append_right (by omega), List.getElem?_drop, hq, show off + xs.length + (j - (off + xs.length)) = j from by omega] at hj
      exact h.2 j x hj

/-- parts laid over an element -/
def layAll (place : Nat → Option (Nat × Nat)) : List AV → List (Nat × AV) → Option (List AV)
  | e, [] => some e
  | e, (i, x) :: r => match place i with
    | some (off, size) => if (cellsA x).length = size ∧ off + size ≤ e.length ∧ onesA (cellsA x) = true then layAll place (lay e off (cellsA x)) r else none
    | none => none
theorem fill_ok {w : World} {vs : Shp} {m : MM} {place : Nat → Option (Nat × Nat)} : ∀ (ps : List (Nat × AV)) (qs : List (Nat × Value)) (e e' : List AV) (arr : Array Value), Sits w vs m e arr → ps.length = qs.length →
    (∀ (k : Nat) (p : Nat × AV) (q : Nat × Value), ps[k]? = some p → qs[k]? = some q → p.1 = q.1 ∧ RV w vs m p.2 q.2) → layAll place e ps = some e' → ∃ arr', Instr.fill place arr qs = some arr' ∧ Sits w vs m e' arr'
  | [], [], e, e', arr, hs, _, _, hl => by
    simp [layAll] at hl
    subst hl
    exact ⟨arr, rfl, hs⟩
  | [], _ :: _, _, _, _, _, hl, _, _ => by simp at hl
  | _ :: _, [], _, _, _, _, hl, _, _ => by simp at hl
  | (i, x) :: ps, (i', v) :: qs, e, e', arr, hs, hlen, hr, hl => by
    obtain ⟨h1, h2⟩ := hr 0 (i, x) (i', v) rfl rfl
    simp only at h1 h2
    subst h1
    rw [layAll] at hl
    cases hp : place i with
    | none => rw [hp] at hl; cases hl
    | some os =>
      obtain ⟨off, size⟩ := os
      rw [hp] at hl
      simp only at hl
      split at hl
      · rename_i hc
        obtain ⟨c1, c2, c3⟩ := hc
        obtain ⟨d1, d2⟩ := cells_ok h2 c3
        have hs' := sits_lay (off := off) hs ⟨d1, d2⟩ (by omega)
        obtain ⟨arr', f1, f2⟩ := fill_ok ps qs _ e' _ hs' (by simpa using hlen) (fun k p q hp hq => hr (k + 1) p q (by simpa using hp) (by simpa using hq)) hl
        refine ⟨arr', ?_, f2⟩
        have hcond : (decide (v.cells.size ≠ size) || decide (off + v.cells.size > arr.size)) = false := by
          have := hs.1
          simp
          omega
        unfold Instr.fill
        simp only [hp]
        rw [if_neg (by rw [hcond]; simp)]
        exact f1
      · cases hl

theorem run_places {P : Program} {w : World} (sz : TypeId → Nat) (gs : Array Field) (h : ∀ g ∈ gs.toList, (sizeOf g.type).run P w = .ok (sz g.type) w) :
    (gs.mapM (fun f => do pure (f.offset, ← sizeOf f.type)) : Sem (Array (Nat × Nat))).run P w = .ok (gs.toList.map (fun g => (g.offset, sz g.type))).toArray w := by
  have key : ∀ l : List Field, (∀ g ∈ l, (sizeOf g.type).run P w = .ok (sz g.type) w) → (l.mapM (fun f => do pure (f.offset, ← sizeOf f.type)) : Sem (List (Nat × Nat))).run P w = .ok (l.map (fun g => (g.offset, sz g.type))) w := by
    intro l
    induction l with
    | nil => intro _; simp
    | cons g r ih =>
      intro hl
      rw [List.mapM_cons]
      simp only [Sem.run_bind, hl g (by simp), Result.andThen_ok, Sem.run_pure, ih (fun x hx => hl x (by simp [hx])), List.map_cons]
  rw [Array.mapM_eq_mapM_toList]
  have := key gs.toList h
  rw [map_eq_pure_bind]
  simp only [Sem.run_bind, this, Result.andThen_ok, Sem.run_pure]

theorem parts_ok {w0 : World} {X : XX} {m : MM} {a : Act} {w : World} (h : Rep C n w0 X τ η m a w) (ps : Array (Nat × Operand)) :
    (ps.toList.map (fun p => (p.1, evA τ p.2))).length = (ps.map (fun p => (p.1, a.eval p.2))).toList.length ∧
    ∀ (k : Nat) (p : Nat × AV) (q : Nat × Value), (ps.toList.map (fun p => (p.1, evA τ p.2)))[k]? = some p → (ps.map (fun p => (p.1, a.eval p.2))).toList[k]? = some q → p.1 = q.1 ∧ RV w (shp η) m p.2 q.2 := by
  refine ⟨by simp, fun k p q hp hq => ?_⟩
  rw [Array.toList_map] at hq
  rw [List.getElem?_map] at hp hq
  cases hk : ps.toList[k]? with
  | none => rw [hk] at hp; cases hp
  | some r =>
    rw [hk] at hp hq
    simp at hp hq
    subst hp hq
    exact ⟨rfl, h.ev r.2⟩
theorem sits_zero {w : World} {vs : Shp} {m : MM} (us : Array Value) (h : ∀ u ∈ us.toList, u.oneCell' = true) : Sits w vs m (us.toList.map .c) us := by
  refine ⟨by simp, fun j x hj => ?_⟩
  rw [List.getElem?_map] at hj
  cases hk : us.toList[j]? with
  | none => rw [hk] at hj; cases hj
  | some u =>
    rw [hk] at hj
    simp at hj
    subst hj
    exact ⟨u, by simpa using hk, h u (List.mem_of_getElem? hk), .c u⟩
theorem p_build {ps : Array (Nat × Operand)} {fs : List (Nat × TypeId)} {fsz : TypeId → Nat} {e' : List AV} (ho : o.op = .build t ps) (ht : TyOk C.P t ti) (hk : ti.kind = .struct fs) (hfs : ∀ p ∈ fs, ∃ tf, TyOk C.P p.2 tf ∧ tf.sz = fsz p.2)
    (hz : ∀ u ∈ ti.zero.cells.toList, u.oneCell' = true) (hl : layAll (fun i => (fs[i]?).map (fun p => (p.1, fsz p.2))) (ti.zero.cells.toList.map .c) (ps.toList.map (fun p => (p.1, evA τ p.2))) = some e') : Pure C n o τ η (.agg e') := by
  intro w0 X m a w h
  obtain ⟨gs, hu, hm⟩ := ht.structU hk
  obtain ⟨q1, q2⟩ := parts_ok h ps
  obtain ⟨arr', f1, f2⟩ := fill_ok _ _ _ _ _ (sits_zero (w := w) (vs := shp η) (m := m) ti.zero.cells hz) q1 q2 hl
  have hpl := run_places (P := C.P) (w := w) fsz gs (fun g hg => by
    obtain ⟨tf, t1, t2⟩ := hfs (g.offset, g.type) (by rw [← hm]; exact List.mem_map.2 ⟨g, hg, rfl⟩)
    rw [t1.size, t2])
  have hfun : (fun (i : Nat) => (gs.toList.map (fun g => (g.offset, fsz g.type))).toArray[i]?) = fun (i : Nat) => (fs[i]?).map (fun (p : Nat × TypeId) => (p.1, fsz p.2)) := by
    funext i
    rw [← hm, List.getElem?_toArray, List.getElem?_map, List.getElem?_map, Option.map_map]
    rfl
  refine ⟨.agg arr', ?_, .agg f2.1 (fun j x u hx hu' => ?_)⟩
  · have hpl' : (gs.mapM (fun f => (do let s ← sizeOf f.type; pure (f.offset, s) : Sem (Nat × Nat))) : Sem (Array (Nat × Nat))).run C.P w = .ok (gs.toList.map (fun g => (g.offset, fsz g.type))).toArray w := hpl
    simp only [execOp, ho, Instr.build, Sem.run_bind, ht.zeroV, Result.andThen_ok, run_underlying hu, hpl', hfun]
    rw [f1]
    simp
  · obtain ⟨u', u1, _, u3⟩ := f2.2 j x hx
    rw [hu'] at u1
    injection u1 with u1
    rw [u1]
    exact u3

theorem flatten_get {α : Type} {sz : Nat} : ∀ (els : List (List α)), (∀ e ∈ els, e.length = sz) → ∀ (k : Nat) (e : List α) (j : Nat), els[k]? = some e → j < sz → els.flatten[k * sz + j]? = e[j]?
  | [], _, k, e, j, hk, _ => by simp at hk
  | e0 :: r, h, k, e, j, hk, hj => by
    have h0 := h e0 (by simp)
    cases k with
    | zero =>
      simp at hk
      subst hk
      rw [List.flatten_cons, List.getElem?_append_left (by omega)]
      simp
    | succ k =>
      rw [List.flatten_cons, List.getElem?_append_right (by rw [Nat.succ_mul]; omega), h0, show (k + 1) * sz + j - sz = k * sz + j from by rw [Nat.succ_mul]; omega]
      exact flatten_get r (fun x hx => h x (by simp [hx])) k e j (by simpa using hk) hj
theorem flatten_len {α : Type} {sz : Nat} : ∀ (els : List (List α)), (∀ e ∈ els, e.length = sz) → els.flatten.length = els.length * sz
  | [], _ => by simp
  | e0 :: r, h => by
    rw [List.flatten_cons, List.length_append, flatten_len r (fun x hx => h x (by simp [hx])), h e0 (by simp), List.length_cons, Nat.succ_mul]
    omega
theorem flat_of_sits {w : World} {vs : Shp} {m : MM} {sz : Nat} {els : List (List AV)} {arr : Array Value} (h : Sits w vs m els.flatten arr) (hl : ∀ e ∈ els, e.length = sz) : Flat w vs m sz els arr := by
  refine ⟨by rw [← h.1, flatten_len els hl]; exact Nat.le_refl _, fun k e he => ⟨hl e (List.mem_of_getElem? he), fun j x hx => ?_⟩⟩
  have hj : j < sz := by rw [← hl e (List.mem_of_getElem? he)]; exact (List.getElem?_eq_some_iff.1 hx).1
  exact h.2 _ x (by rw [flatten_get els hl k e j he hj, hx])

theorem s_buildSlice {e : TypeId} {te : TI} {len d : Nat} {ps : Array (Nat × Operand)} {els : List (List AV)} (ho : o.op = .buildSlice t len ps) (hd : o.dst = some d) (hn : d < n) (ht : TyOk C.P t ti) (hk : ti.kind = .slice e) (hte : TyOk C.P e te) (hsmall : len * te.sz ≤ 16777216) (hpos : 0 < te.sz)
    (hz : ∀ u ∈ te.zero.cells.toList, u.oneCell' = true) (hll : els.length = len) (hels : ∀ x ∈ els, x.length = te.sz)
    (hl : layAll (fun i => some (i * te.sz, te.sz)) ((List.range (len * te.sz)).map (fun i => .c (te.zero.cells.getD (i % te.sz) undef))) (ps.toList.map (fun p => (p.1, evA τ p.2))) = some els.flatten) :
    Step C n o τ η (putA τ o.dst (.own d ((η d).ver + 1) 0 len)) (updE η d ⟨(η d).ver + 1, some ⟨e, te.sz, false, els⟩⟩) := by
  intro w0 X m a w h
  obtain ⟨q1, q2⟩ := parts_ok h ps
  have hzs : Sits w (shp η) m ((List.range (len * te.sz)).map (fun i => AV.c (te.zero.cells.getD (i % te.sz) undef))) ((Array.range (len * te.sz)).map (fun i => te.zero.cells.getD (i % te.sz) undef)) := by
    refine ⟨by simp, fun j x hj => ?_⟩
    rw [List.getElem?_map] at hj
    cases hr : (List.range (len * te.sz))[j]? with
    | none => rw [hr] at hj; cases hj
    | some q =>
      obtain ⟨g1, g2⟩ := List.getElem?_eq_some_iff.1 hr
      simp at g1 g2
      subst g2
      rw [hr] at hj
      simp only [Option.map_some, Option.some.injEq] at hj
      subst hj
      have hp : 0 < te.sz := Nat.pos_of_ne_zero (fun e => by rw [e] at g1; simp at g1)
      have hml := Nat.mod_lt j hp
      have hlt : j % te.sz < te.zero.cells.size := by rw [hte.cells]; exact hml
      refine ⟨te.zero.cells.getD (j % te.sz) undef, by simp [g1], hz _ ?_, .c _⟩
      rw [Array.getD_eq_getD_getElem?, Array.getElem?_eq_getElem hlt]
      simp
  obtain ⟨arr', f1, f2⟩ := fill_ok _ _ _ _ _ hzs q1 q2 hl
  have hf := flat_of_sits f2 hels
  have hr := h.fresh (i := d) (ver := (η d).ver + 1) (B := ⟨e, te.sz, false, els⟩) (Nat.lt_succ_self _) hf
  have hsz : arr'.size = len * te.sz := by rw [← f2.1, flatten_len els hels, hll]
  have hrun : (execOp a.eval o).run C.P w = .ok (.value (.slice (some ⟨w.heap.size, 0, none⟩) len len)) (w.alloc (.cells arr' e)) := by
    simp only [execOp, ho, Instr.buildSlice, Sem.run_bind, run_underlying (ht.sliceU hk), Result.andThen_ok, hte.size]
    rw [if_neg (by omega), show ps.map (fun p => match p with | (i, x) => (i, a.eval x)) = ps.map (fun p => (p.1, a.eval p.2)) from rfl]
    by_cases h0 : len * te.sz = 0
    · rw [h0] at f1 ⊢
      have f1' : Instr.fill (fun i => some (i * te.sz, te.sz)) #[] (ps.map (fun p => (p.1, a.eval p.2))).toList = some arr' := by
        rw [← f1]
        congr 1
        simp
      simp only [if_true, Sem.run_bind, Sem.run_pure, Result.andThen_ok]
      rw [show (Array.range 0).map ((#[] : Array Value)[· % (#[] : Array Value).size]!) = #[] from by simp]
      simp only [f1', newRow, newObj]
      simp [Sem.run]
    · have hmap : (Array.range (len * te.sz)).map (te.zero.cells[· % te.zero.cells.size]!) = (Array.range (len * te.sz)).map (fun i => te.zero.cells.getD (i % te.sz) undef) := by
        refine Array.map_congr_left (fun i hi => ?_)
        have hlt : i % te.sz < te.zero.cells.size := by rw [hte.cells]; exact Nat.mod_lt i hpos
        simp only [hte.cells]
        simp [hlt]
      simp only [if_neg h0, Sem.run_bind, hte.zeroV, Sem.run_pure, Result.andThen_ok, hmap, f1, newRow, newObj]
      simp [Sem.run]
  unfold Oper.wp
  rw [hrun]
  refine ⟨_, hr.put (by rw [hd]; exact hn) ?_⟩
  have := RV.own (w := w.alloc (.cells arr' e)) (vs := shp (updE η d ⟨(η d).ver + 1, some ⟨e, te.sz, false, els⟩⟩)) (m := newM m d (some w.heap.size)) (k := 0) (len := len) (cap := len) (ty := e) (n := len * te.sz) shp_new (newM_same _ _ _) (Nat.le_refl _) ?_ ?_ (by simp)
  · simpa using this
  · have h1 : len ≤ 16777216 := Nat.le_trans (Nat.le_mul_of_pos_right _ hpos) hsmall
    simp only [maxLen]
    omega
  · have := heap_alloc_new w (.cells arr' e)
    simp only [World.shape?, this, hsz]
end
end Go.Proofs.YticdfbhbbapbdaaDoor.Am
