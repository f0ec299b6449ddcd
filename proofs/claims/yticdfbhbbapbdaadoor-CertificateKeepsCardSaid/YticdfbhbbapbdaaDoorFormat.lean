/- certificate.Format: the text of a certificate. -/
import Derived.Test.YticdfbhbbapbdaaDoorPlainC
import Derived.Test.YticdfbhbbapbdaaDoorBuild
import Derived.Deep.RegionHeld3
import Derived.Lib.AppendIntMem
namespace Go.Proofs.YticdfbhbbapbdaaDoor
open Go.RowKit

abbrev TabOk (w : World) : Prop := Lib.TabIs Tryd.prog w "internal/strconv.uint64pow10" .u64 Lib.pow10Tab
theorem gPow : Tryd.prog.globalNamed "internal/strconv.uint64pow10" = some 0 := by kernel_rfl
theorem TabOk.keep {w w' : World} (h : TabOk w) (hb : Below w.heap.size w w') : TabOk w' := Joins.tab_stays gPow h hb (Nat.le_refl _)

theorem itoa_calls (n : Int) (w : World) (h0 : -9223372036854775808 ≤ n) (h1 : n ≤ 9223372036854775807) (htab : TabOk w) :
    Calls Tryd.prog 33 #[.int .i64 n] w fun e w' => e = .returned (.string ⟨(Lib.itoa n).toArray⟩) ∧ Below w.heap.size w w' := by
  refine (Tryd.strconv_Itoa n h0 h1 w htab).mono ?_
  rintro e w' ⟨rfl, k, os, rfl⟩
  exact ⟨rfl, Lib.below_grow _ _ (Nat.le_refl _) _ _⟩

theorem byteCells_append (a b : List UInt8) : Lib.byteCells (a ++ b) = Lib.byteCells a ++ Lib.byteCells b := by simp [Lib.byteCells]
theorem strCells_list (a : List UInt8) : Lib.strCells ⟨a.toArray⟩ = Lib.byteCells a := by simp [Lib.strCells, Lib.byteCells]
/-- WriteString, in lists of bytes -/
theorem writeB (B b : Nat) (acc : List UInt8) (s : ByteArray) (t : List UInt8) (w : World) (hs : s.data.toList = t) (h : Bld B b (Lib.byteCells acc) w) (hlen : acc.length + t.length ≤ 140737488355328) (hBw : B ≤ w.heap.size) :
    Calls Tryd.prog 32 #[.pointer (some ⟨b, 0, none⟩), .string s] w fun e w' => e = .returned (.tuple #[.int .i64 s.size, .nilIface]) ∧ (Bld B b (Lib.byteCells (acc ++ t)) w' ∧ Below B w w' ∧ KeepT [61, 5] w w') := by
  subst hs
  have h9 : s.size = s.data.toList.length := by show s.data.size = _; rw [Array.length_toList]
  refine (writeString_calls B b (Lib.byteCells acc) s w h (by rw [Lib.byteCells_length]; omega) hBw).mono ?_
  rintro e w' ⟨rfl, h1, h2, h3⟩
  refine ⟨rfl, ?_, h2, h3⟩
  rw [byteCells_append]
  exact h1

set_option maxHeartbeats 1000000 in
theorem format_err (bd : Int) (v : Value) (l : List Nogood) (w : World) (hv : NogoodsAt w v l) (hc : checkF bd l ≠ 0) :
    Calls Tryd.prog 16 #[.agg #[.int .i64 bd, v]] w fun e w' => e = .returned (.tuple #[.string ⟨#[]⟩, errV (checkF bd l)]) ∧ Below w.heap.size w w' := by
  obtain ⟨A, n, c, rfl, hn, hm⟩ := hv.form
  have he := errV_ne hc
  have HV := Lib.hid hv
  have HN := Lib.hid hn
  have HC := Lib.hid hc
  have HE := Lib.hid he
  clear hv hn hc he
  go_enter Tryd.func16, Tryd.ntmps16
  go_wp2_with (go_at_call 13; refine (check_calls bd _ l _ (HV.out.keep (belowA (Below.refl _ _) _))).mono ?_; rw [HE.out]; rintro e w' ⟨rfl, hb'⟩)
  go_ret2
  exact ⟨by rw [HE.out]; rfl, belowT (belowA (Below.refl _ _) _) hb'⟩

set_option maxHeartbeats 1000000 in
set_option maxRecDepth 100000 in
theorem format_ok (bd : Int) (v : Value) (l : List Nogood) (w : World) (hv : NogoodsAt w v l) (hc : checkF bd l = 0) (htab : TabOk w) :
    Calls Tryd.prog 16 #[.agg #[.int .i64 bd, v]] w fun e w' => e = .returned (.tuple #[.string ⟨(formatF bd l).1.toArray⟩, errV (formatF bd l).2]) ∧ Below w.heap.size w w' := by
  obtain ⟨A, n, c, rfl, hn, hm⟩ := hv.form
  have he : errV (checkF bd l) = .nilIface := by rw [hc]; rfl
  obtain ⟨hb1, hb2, hn4, hform, hdist⟩ := checkF_zero hc
  have HV := Lib.hid hv
  have HN := Lib.hid hn
  have HC := Lib.hid hc
  have HE := Lib.hid he
  have HFORM := Lib.hid hform
  have HDIST := Lib.hid hdist
  have HTAB := Lib.hid htab
  have HN4 := Lib.hid hn4
  clear hv hn hc he hform hdist htab hn4
  go_enter Tryd.func16, Tryd.ntmps16
  go_upto_if 17 with (go_at_call 13; refine (check_calls bd _ l _ (HV.out.keep (belowA (Below.refl _ _) _))).mono ?_; rw [HE.out]; rintro e w1 ⟨rfl, hbw1⟩; have q0 : w1.cell? ⟨w.heap.size, 0, none⟩ = some (.int .i64 bd) := kept hbw1 (by simp [World.cell?_alloc_new]); have q1 : w1.cell? ⟨w.heap.size, 1, none⟩ = some (.slice A n c) := kept hbw1 (by simp [World.cell?_alloc_new]); have hsz : w.heap.size < w1.heap.size := lt_of_cell q0)
  have hBw1 : Below w.heap.size w w1 := belowT (belowA (Below.refl _ _) _) hbw1
  have hbld : Bld w1.heap.size w1.heap.size (Lib.byteCells []) (w1.alloc (.cells #[.pointer none, .slice none 0 0] 61)) := .inl ⟨Nat.le_refl _, .slice none 0 0, by exact heap_alloc_new _ _, ⟨by simp [Lib.byteCells], .inl ⟨rfl, rfl⟩⟩, by simp [Value.ownBlock]⟩
  have HBLD := Lib.hid hbld
  clear hbld
  clear hbw1
  go_cut [] (fun wx => Bld w1.heap.size w1.heap.size (Lib.byteCells (headB bd)) wx ∧ Below w1.heap.size w1 wx)
  case first =>
    by_cases hneg : bd < 0
    · have hh : headB bd = [117, 110, 115, 111, 108, 118, 97, 98, 108, 101, 10] := by rw [headB, if_pos hneg]
      have HH := Lib.hid hh
      clear hh
      go_wp2_with (go_at_call 32; refine (writeB _ _ _ _ [117, 110, 115, 111, 108, 118, 97, 98, 108, 101, 10] _ rfl HBLD.out (by simp) (by simp)).mono ?_; rintro e w2 ⟨rfl, hb2, hbe2, hk2⟩)
      go_meet
      exact ⟨by rw [HH.out]; exact hb2, (belowA (Below.refl _ _) _).trans hbe2⟩
    · have hh : headB bd = [108, 111, 119, 101, 114, 32] ++ Lib.itoa bd ++ [10] := by rw [headB, if_neg hneg]
      have hil := Lib.itoa_length_le bd (by omega) (by omega)
      have ht1 := HTAB.out.keep hBw1
      have HH := Lib.hid hh
      have HT1 := Lib.hid ht1
      clear hh ht1
      go_wp2_with (go_at_call 33; refine (itoa_calls bd _ (by omega) (by omega) (HT1.out.keep (belowA (Below.refl _ _) _))).mono ?_; rintro e w2 ⟨rfl, hb2⟩)
      refine (writeB _ _ _ _ ([108, 111, 119, 101, 114, 32] ++ Lib.itoa bd ++ [10]) _ (by simp [ByteArray.data_append]) (bld_keep HBLD.out hb2) (by simp; omega) (by have := hb2.size; simp at this; omega)).mono ?_
      rintro e w3 ⟨rfl, hb3, hbe3, hk3⟩
      go_wp2_with fail
      go_meet
      exact ⟨by rw [HH.out]; exact hb3, ((belowA (Below.refl _ _) _).trans (hb2.mono (by simp))).trans hbe3⟩
  case rest =>
    obtain ⟨hbld, hBc⟩ := hcut
    have r0 : wc.cell? ⟨w.heap.size, 0, none⟩ = some (.int .i64 bd) := kept hBc q0
    have r1 : wc.cell? ⟨w.heap.size, 1, none⟩ = some (.slice A n c) := kept hBc q1
    clear q0 q1 HBLD
    have hfin : formatF bd l = match formatL (headB bd) l with | some t => (t, 0) | none => ([], 5) := by rw [formatF, if_neg (by rw [HC.out]; simp)]; rfl
    have HBLD := Lib.hid hbld
    have HFIN := Lib.hid hfin
    clear hbld hfin
    go_wp2
    go_loopg [28] n (fun g i wr => ∃ (k : Nat) (acc : List UInt8), k ≤ n ∧ g = n - k ∧ i = .int .i64 k ∧ Below w1.heap.size w1 wr ∧ Bld w1.heap.size w1.heap.size (Lib.byteCells acc) wr ∧ acc.length ≤ 65536 ∧ formatL (headB bd) l = formatL acc (l.drop k))
    case atStart => exact ⟨0, _, Nat.zero_le _, by omega, rfl, hBc, HBLD.out, by have := headB_len bd hb2; omega, rfl⟩
    case round =>
      obtain ⟨k, acc, hk, hg, rfl, hB, hbl, hacc, hF⟩ := hrel
      clear HBLD r0 r1 hBc
      have hBw : Below w.heap.size w wr := belowT hBw1 hB
      have hblt : w1.heap.size < wr.heap.size := bld_lt hbl
      have HG := Lib.hid hg
      have HF := Lib.hid hF
      have HBL := Lib.hid hbl
      clear hg hF hbl
      by_cases hlt : k < n
      · obtain ⟨b, off, fA, fn, fc, fs, d, rfl, c0w, hfn, hfm, hfs, c1w, hx, hd⟩ := HV.out.at hlt
        have c0 := kept hBw c0w
        have c1 := kept hBw c1w
        clear c0w c1w
        have hbr : b < wr.heap.size := lt_of_cell c0
        have hmem : (fs, d) ∈ l := List.mem_of_getElem? hx
        have hform := HFORM.out _ hmem
        obtain ⟨hd0, hd1⟩ := badDist_range hb1 hb2 (HDIST.out _ hmem)
        have hfl := formedF_len hform
        have hff := formedF_facts hform
        have hll := lineB_len d hd0 hd1
        have hfn64 : fn ≤ 64 := by simp only at hfl; omega
        have hil := Lib.itoa_length_le d (by omega) (by omega)
        simp only at hfl hff
        have HX := Lib.hid hx
        have HD := Lib.hid hd
        have HFS := Lib.hid hfs
        have HFN := Lib.hid hfn
        have HMEM := Lib.hid hmem
        have HFO := Lib.hid hform
        have HFF := Lib.hid hff
        clear hx hd hfs hfn hmem hform hff
        have ht := HTAB.out.keep hBw
        have HT := Lib.hid ht
        clear ht
        go_wp2_with (go_at_call 33; refine (itoa_calls d _ (by omega) (by omega) (HT.out.keep (belowA (Below.refl _ _) _))).mono ?_; rintro e w2 ⟨rfl, hb2'⟩)
        refine (writeB _ _ acc _ (lineB d) _ (by simp [lineB, ByteArray.data_append]) (bld_keep (bld_keep HBL.out (belowA (Below.refl _ _) _)) hb2') (by omega) (by have := hb2'.size; simp at this; omega)).mono ?_
        rintro e w3 ⟨rfl, hb3, hbe3, hk3⟩
        have hbox : w2.heap[wr.heap.size]? = some (.cells #[.slice fA fn fc, .int .i64 d] 45 (0, 0)) := by
          rw [hb2'.block _ (by simp)]; exact heap_alloc_new _ _
        have q0 : w3.cell? ⟨wr.heap.size, 0, none⟩ = some (.slice fA fn fc) := by rw [hk3.cell hbox (by decide)]; rfl
        have hB3 : Below w1.heap.size w1 w3 := ((hB.alloc (by omega) _).trans (hb2'.mono (by simp; omega))).trans hbe3
        have HB3 := Lib.hid hb3
        clear hb3
        clear c0 c1 hbe3 hb2'
        go_wp2
        obtain ⟨wo, rfl⟩ : ∃ wo : World, wo = wr := ⟨_, rfl⟩
        go_loopg [41] fn (fun g i wx => ∃ (j : Nat) (acc' : List UInt8), j ≤ fn ∧ g = fn - j ∧ i = .int .i64 j ∧ Below w1.heap.size w1 wx ∧ Bld w1.heap.size w1.heap.size (Lib.byteCells acc') wx ∧ acc'.length ≤ 65536 + 29 + 44 * j ∧ acc ++ nogoodB (fs, d) = acc' ++ (fs.drop j).flatMap factB ++ [10])
        case atStart => exact ⟨0, _, Nat.zero_le _, by omega, rfl, hB3, HB3.out, by simp; omega, by simp [nogoodB]⟩
        case round =>
          obtain ⟨j, acc', hj, hg', rfl, hBx, hbl', hacc', hFx⟩ := hrel
          clear HB3 q0 hB3
          have hblt' : w1.heap.size < wr.heap.size := bld_lt hbl'
          have hBwx : Below w.heap.size w wr := belowT hBw1 hBx
          have HG2 := Lib.hid hg'
          have HFX := Lib.hid hFx
          have HBL2 := Lib.hid hbl'
          clear hg' hFx hbl'
          by_cases hjt : j < fn
          · obtain ⟨b2, off2, x, y, rfl, c0, c1, hx2, hd2⟩ := (HFS.out.keep hBwx).at hjt
            have hbr2 : b2 < wr.heap.size := lt_of_cell c0
            obtain ⟨hx0, hx1, hy0, hy1⟩ := HFF.out _ (List.mem_of_getElem? hx2)
            simp only at hx0 hx1 hy0 hy1
            have hix := Lib.itoa_length_le x (by omega) (by omega)
            have hiy := Lib.itoa_length_le y (by omega) (by omega)
            have ht2 := HTAB.out.keep hBwx
            have HX2 := Lib.hid hx2
            have HD2 := Lib.hid hd2
            have HT2 := Lib.hid ht2
            clear hx2 hd2 ht2
            go_upto_region 15 with fail
            have g1 : (9223372036854775807 < 1 + (Lib.itoa x).length) = False := eq_false (by omega)
            have g2 : (9223372036854775807 < 1 + (Lib.itoa x).length + 1) = False := eq_false (by omega)
            have g3 : (9223372036854775807 < 1 + (Lib.itoa x).length + 1 + (Lib.itoa y).length) = False := eq_false (by omega)
            have b0 : Below wr.heap.size wr (wr.alloc (.cells #[.int .i64 x, .int .i64 y] 54)).drew := (belowA (Below.refl _ _) _).drew
            have b1 : Below w1.heap.size w1 (wr.alloc (.cells #[.int .i64 x, .int .i64 y] 54)).drew := hBx.trans (b0.mono (by omega))
            have b3 : Bld w1.heap.size w1.heap.size (Lib.byteCells acc') (wr.alloc (.cells #[.int .i64 x, .int .i64 y] 54)).drew := bld_keep HBL2.out b0
            have b4 : wr.heap.size < (wr.alloc (.cells #[.int .i64 x, .int .i64 y] 54)).drew.heap.size := by simp
            have b5 : (wr.alloc (.cells #[.int .i64 x, .int .i64 y] 54)).drew.heap[wr.heap.size]? = some (.cells #[.int .i64 x, .int .i64 y] 54 (0, 0)) := heap_alloc_new _ _
            have htx := HT2.out.keep b0
            have B0 := Lib.hid b0
            have B1 := Lib.hid b1
            have B3 := Lib.hid b3
            have B4 := Lib.hid b4
            have B5 := Lib.hid b5
            have HTX := Lib.hid htx
            clear b0 b1 b3 b4 b5 htx
            go_region_held3 (fun w' => w'.cell? ⟨wr.heap.size, 0, none⟩ = some (.int .i64 x) ∧ w'.cell? ⟨wr.heap.size, 1, none⟩ = some (.int .i64 y))
              (first | exact ⟨u0, u1⟩ | exact ⟨t0, t1⟩ | exact ⟨s0, s1⟩ | exact ⟨by simp [World.cell?_alloc_new], by simp [World.cell?_alloc_new]⟩)
              (first
                | (go_at_call_of 33 (Value.int .i64 x); refine (itoa_calls x _ (by omega) (by omega) HTX.out).mono ?_; rintro e wx ⟨rfl, hbx⟩; have s2 := B1.out.trans (hbx.mono (by have := B4.out; omega)); have s3 := bld_keep B3.out hbx; have s5 := (hbx.block _ B4.out).trans B5.out; have s4 := HTX.out.keep hbx; have s6 := Nat.lt_of_lt_of_le B4.out hbx.size; have S2 := Lib.hid s2; have S3 := Lib.hid s3; have S4 := Lib.hid s4; have S5 := Lib.hid s5; have S6 := Lib.hid s6; have s0 := Lib.cell_of_heap s5 0; have s1 := Lib.cell_of_heap s5 1; clear s2 s3 s4 s5 s6 hbx)
                | (go_at_call_of 33 (Value.int .i64 y); refine (itoa_calls y _ (by omega) (by omega) S4.out).mono ?_; rintro e wy ⟨rfl, hby⟩; have t2 := S2.out.trans (hby.mono (by have := S6.out; omega)); have t3 := bld_keep S3.out hby; have t5 := (hby.block _ S6.out).trans S5.out; have T2 := Lib.hid t2; have T3 := Lib.hid t3; have T5 := Lib.hid t5; have T6 := Lib.hid (Nat.lt_of_lt_of_le S6.out hby.size); have t0 := Lib.cell_of_heap t5 0; have t1 := Lib.cell_of_heap t5 1; clear t2 t3 t5 hby)
                | (go_at_call 32; refine (writeB _ _ acc' _ (factB (x, y)) _ (by simp [factB, ByteArray.data_append]) T3.out (by have := factB_len (x, y) ⟨hx0, hx1, hy0, hy1⟩; omega) (by have := T6.out; omega)).mono ?_; rintro e w3 ⟨rfl, hb3, hbe3, hk3⟩; have u0 := hk3.cell T5.out (by decide) 0; have u1 := hk3.cell T5.out (by decide) 1; have U2 := Lib.hid (T2.out.trans hbe3); have U3 := Lib.hid hb3; clear hb3 hbe3 hk3))
            clear u0 u1 t0 t1 s0 s1 g1 g2 g3
            go_wp2
            go_roundg (fn - (j + 1))
            case measure => have := HG2.out; omega
            case rel => exact ⟨j + 1, _, by omega, rfl, by go_num, U2.out, U3.out, by have := factB_len (x, y) ⟨hx0, hx1, hy0, hy1⟩; simp; omega, by rw [HFX.out, HD2.out]; simp⟩
          · have hnb : acc ++ nogoodB (fs, d) = acc' ++ [10] := by rw [HFX.out, List.drop_eq_nil_of_le (by have := HFN.out; omega)]; simp
            have HNB := Lib.hid hnb
            clear hnb
            go_wp2_with (go_at_call 32; refine (writeB _ _ acc' _ [10] _ rfl HBL2.out (by simp; omega) (by omega)).mono ?_; rintro e w4 ⟨rfl, hb4, hbe4, hk4⟩)
            refine (Tryd.Builder_Len _ _ _ _ hb4).mono ?_
            rintro e w5 ⟨rfl, rfl⟩
            obtain ⟨L, hL⟩ : ∃ L, L = (acc ++ nogoodB (fs, d)).length := ⟨_, rfl⟩
            have hlen : (Lib.byteCells (acc' ++ [10])).length = L := by rw [Lib.byteCells_length, hL, HNB.out]
            rw [hlen]
            have hb5' : Bld w1.heap.size w1.heap.size (Lib.byteCells (acc ++ nogoodB (fs, d))) w5 := by rw [HNB.out]; exact hb4
            have HLEN := Lib.hid hlen
            have HL := Lib.hid hL
            have HB4 := Lib.hid hb4
            have HB5 := Lib.hid hb5'
            clear hlen hL hb4 hb5'
            by_cases hbig : 65536 < L
            · have hnone : formatL (headB bd) l = none := by rw [HF.out, HD.out, formatL, if_pos (by rw [← HL.out]; exact hbig)]
              have hf2 : formatF bd l = ([], 5) := by rw [HFIN.out, hnone]
              have HNONE := Lib.hid hnone
              have HF2 := Lib.hid hf2
              clear hnone hf2
              go_wp2_with fail
              go_ret2
              exact ⟨by rw [HF2.out]; rfl, (belowT hBw1 hBx).trans (hbe4.mono (by omega))⟩
            · have hsome : formatL (headB bd) l = formatL (acc ++ nogoodB (fs, d)) (l.drop (k + 1)) := by rw [HF.out, HD.out, formatL, if_neg (by rw [← HL.out]; exact hbig)]
              have HSOME := Lib.hid hsome
              clear hsome
              go_wp2_with fail
              go_roundg (n - (k + 1))
              case measure => have := HG.out; omega
              case rel => exact ⟨k + 1, _, by omega, rfl, by go_num, hBx.trans hbe4, HB5.out, by have := HL.out; omega, HSOME.out⟩
      · have hsome : formatF bd l = (acc, 0) := by rw [HFIN.out, HF.out, List.drop_eq_nil_of_le (by have := HN.out; omega), formatL]
        have HSOME := Lib.hid hsome
        clear hsome
        go_wp2_with (go_at_call 35; refine (Tryd.Builder_String_any _ _ acc _ HBL.out (by omega)).mono ?_; rintro e w4 ⟨rfl, hbe4⟩)
        go_ret2
        exact ⟨by rw [HSOME.out]; rfl, hBw.trans (hbe4.mono (by omega))⟩
theorem format_calls (bd : Int) (v : Value) (l : List Nogood) (w : World) (hv : NogoodsAt w v l) (htab : TabOk w) :
    Calls Tryd.prog 16 #[.agg #[.int .i64 bd, v]] w fun e w' => e = .returned (.tuple #[.string ⟨(formatF bd l).1.toArray⟩, errV (formatF bd l).2]) ∧ Below w.heap.size w w' := by
  by_cases hc : checkF bd l = 0
  · exact format_ok bd v l w hv hc htab
  · have hf : formatF bd l = ([], checkF bd l) := by rw [formatF, if_pos hc]
    rw [hf]
    exact format_err bd v l w hv hc
end Go.Proofs.YticdfbhbbapbdaaDoor
