/- stratagemref30.Format: the text of a valid certificate. -/
import Derived.Test.YticdfbhbbapbdaaDoorPlainC
import Derived.Test.YticdfbhbbapbdaaDoorNumber
namespace Go.Proofs.YticdfbhbbapbdaaDoor
open Go.RowKit

theorem flatMap_len {α : Type} (f : α → List UInt8) (m : Nat) (l : List α) (h : ∀ x ∈ l, (f x).length ≤ m) : (l.flatMap f).length ≤ m * l.length := by
  induction l with
  | nil => simp
  | cons x r ih =>
    have h1 := h x (by simp)
    have h2 := ih (fun y hy => h y (by simp [hy]))
    simp only [List.flatMap_cons, List.length_append, List.length_cons, Nat.mul_add]
    omega
theorem str_cat' {s : ByteArray} {a b : List UInt8} (h : s = ⟨a.toArray⟩) : s ++ ⟨b.toArray⟩ = ⟨(a ++ b).toArray⟩ := by rw [h, str_cat]

set_option maxHeartbeats 1000000 in
theorem rformat_calls (bd : Int) (v : Value) (l : List Nogood) (w : World) (hv : NogoodsAt w v l) (hc : checkF bd l = 0) :
    Calls Tryd.prog 17 #[.agg #[.int .i64 bd, v]] w fun e w' => e = .returned (.string ⟨(headB bd ++ l.flatMap nogoodB).toArray⟩) ∧ Below w.heap.size w w' := by
  obtain ⟨A, n, c, rfl, hn, hm⟩ := hv.form
  obtain ⟨hb1, hb2, hn4, hform, hdist⟩ := checkF_zero hc
  have hnl : n ≤ 4096 := by omega
  have HV := Lib.hid hv
  have HN := Lib.hid hn
  have HC := Lib.hid hc
  have HFORM := Lib.hid hform
  have HDIST := Lib.hid hdist
  have HN4 := Lib.hid hn4
  clear hv hn hc hform hdist hn4
  go_enter Tryd.func17, Tryd.ntmps17
  go_upto_if 10 with fail
  go_cut [3] (fun s wx => ∃ t : ByteArray, s = .string t ∧ t.data.toList = headB bd ∧ Below w.heap.size w wx ∧ wx.cell? ⟨w.heap.size, 1, none⟩ = some (.slice A n c))
  case first =>
    by_cases hneg : bd < 0
    · have hh : headB bd = [117, 110, 115, 111, 108, 118, 97, 98, 108, 101, 10] := by rw [headB, if_pos hneg]
      have HH := Lib.hid hh
      clear hh
      go_wp2_with fail
      go_meet
      exact ⟨_, rfl, by rw [HH.out], belowA (Below.refl _ _) _, by simp⟩
    · have hh : headB bd = [108, 111, 119, 101, 114, 32] ++ Lib.itoa bd ++ [10] := by rw [headB, if_neg hneg]
      have hil := Lib.itoa_length_le bd (by omega) (by omega)
      have HH := Lib.hid hh
      clear hh
      go_wp2_with (go_at_call 36; refine (number_calls bd _ (by omega) (by omega)).mono ?_; rintro e w2 ⟨rfl, hb2'⟩)
      go_meet
      exact ⟨_, rfl, by rw [HH.out]; simp [ByteArray.data_append], belowT (belowA (Below.refl _ _) _) hb2', kept hb2' (by simp)⟩
  case rest =>
    obtain ⟨t, rfl, ht, hBc, q1⟩ := hcut
    have hbs : w.heap.size < wc.heap.size := lt_of_cell q1
    have hhl := headB_len bd hb2
    have HT := Lib.hid ht
    clear ht
    go_wp2
    go_loopg [3, 19] n (fun g s i wr => ∃ (k : Nat) (t : ByteArray) (acc : List UInt8), k ≤ n ∧ g = n - k ∧ s = .string t ∧ i = .int .i64 k ∧ Below w.heap.size w wr ∧ t.data.toList = acc ∧ t.size ≤ 29 + k * 3000 ∧ headB bd ++ l.flatMap nogoodB = acc ++ (l.drop k).flatMap nogoodB)
    case atStart => exact ⟨0, t, _, Nat.zero_le _, by omega, rfl, rfl, hBc, HT.out, by rw [size_list, HT.out]; omega, rfl⟩
    case round =>
      clear q1 hBc
      obtain ⟨k, t, acc, hk, hg, rfl, rfl, hB, hta, hts, hF⟩ := hrel
      have HG := Lib.hid hg
      have HF := Lib.hid hF
      have HTA := Lib.hid hta
      clear hg hF hta
      by_cases hlt : k < n
      · obtain ⟨b, off, fA, fn, fc, fs, d, rfl, c0w, hfn, hfm, hfs, c1w, hx, hd⟩ := HV.out.at hlt
        have c0 := kept hB c0w
        have c1 := kept hB c1w
        clear c0w c1w
        have hbr : b < wr.heap.size := lt_of_cell c0
        have hmem : (fs, d) ∈ l := List.mem_of_getElem? hx
        have hform := HFORM.out _ hmem
        obtain ⟨hd0, hd1⟩ := badDist_range hb1 hb2 (HDIST.out _ hmem)
        have hfl := formedF_len hform
        have hff := formedF_facts hform
        have hil := Lib.itoa_length_le d (by omega) (by omega)
        simp only at hfl hff
        have hfn64 : fn ≤ 64 := by omega
        have HX := Lib.hid hx
        have HD := Lib.hid hd
        have HFS := Lib.hid hfs
        have HFN := Lib.hid hfn
        have HMEM := Lib.hid hmem
        have HFO := Lib.hid hform
        have HFF := Lib.hid hff
        clear hx hd hfs hfn hmem hform hff
        go_wp2_with (go_at_call 36; refine (number_calls d _ (by omega) (by omega)).mono ?_; rintro e w2 ⟨rfl, hb2'⟩; have q0 : w2.cell? ⟨wr.heap.size, 0, none⟩ = some (.slice fA fn fc) := kept hb2' (by simp))
        have hB2 : Below w.heap.size w w2 := belowT (belowA hB _) hb2'
        clear c0 c1 hb2'
        go_wp2
        have hin : (t ++ (⟨#[110, 111, 103, 111, 111, 100, 32]⟩ ++ ⟨(Lib.itoa d).toArray⟩ ++ ⟨#[58]⟩) : ByteArray).data.toList = acc ++ lineB d := by
          rw [ByteArray.data_append, Array.toList_append, HTA.out]; simp [lineB, ByteArray.data_append]
        have hinl : (t ++ (⟨#[110, 111, 103, 111, 111, 100, 32]⟩ ++ ⟨(Lib.itoa d).toArray⟩ ++ ⟨#[58]⟩) : ByteArray).size ≤ 29 + k * 3000 + 29 := by
          have h9 := lineB_len d hd0 hd1
          rw [size_list, hin, List.length_append, ← HTA.out, ← size_list]; omega
        have HIN := Lib.hid hin
        have HINL := Lib.hid hinl
        clear hin hinl
        obtain ⟨wo, rfl⟩ : ∃ wo : World, wo = wr := ⟨_, rfl⟩
        go_loopg [3, 33] fn (fun g s i wx => ∃ (j : Nat) (t' : ByteArray) (acc' : List UInt8), j ≤ fn ∧ g = fn - j ∧ s = .string t' ∧ i = .int .i64 j ∧ Below w.heap.size w wx ∧ t'.data.toList = acc' ∧ t'.size ≤ 29 + k * 3000 + 29 + j * 44 ∧ acc ++ nogoodB (fs, d) = acc' ++ (fs.drop j).flatMap factB ++ [10])
        case atStart => exact ⟨0, _, _, Nat.zero_le _, by omega, rfl, rfl, hB2, HIN.out, by have := HINL.out; omega, by simp [nogoodB]⟩
        case round =>
          clear HIN HINL q0 hB2
          obtain ⟨j, t', acc', hj, hg', rfl, rfl, hBx, hta', hts', hFx⟩ := hrel
          have HG2 := Lib.hid hg'
          have HFX := Lib.hid hFx
          have HTA2 := Lib.hid hta'
          clear hg' hFx hta'
          by_cases hjt : j < fn
          · obtain ⟨b2, off2, x, y, rfl, c0, c1, hx2, hd2⟩ := (HFS.out.keep hBx).at hjt
            have hbr2 : b2 < wr.heap.size := lt_of_cell c0
            obtain ⟨hx0, hx1, hy0, hy1⟩ := HFF.out _ (List.mem_of_getElem? hx2)
            simp only at hx0 hx1 hy0 hy1
            have hix := Lib.itoa_length_le x (by omega) (by omega)
            have hiy := Lib.itoa_length_le y (by omega) (by omega)
            have HX2 := Lib.hid hx2
            have HD2 := Lib.hid hd2
            clear hx2 hd2
            go_wp2_with (go_at_call 37; refine (fact_text x y _ (by omega) (by omega) (by omega) (by omega)).mono ?_; rintro e w3 ⟨rfl, hb3⟩)
            have hin : (t' ++ (⟨#[32]⟩ ++ ⟨(Lib.itoa x ++ 61 :: Lib.itoa y).toArray⟩) : ByteArray).data.toList = acc' ++ factB (x, y) := by
              rw [ByteArray.data_append, Array.toList_append, HTA2.out]; simp [factB, ByteArray.data_append]
            have hinl : (t' ++ (⟨#[32]⟩ ++ ⟨(Lib.itoa x ++ 61 :: Lib.itoa y).toArray⟩) : ByteArray).size ≤ 29 + k * 3000 + 29 + (j + 1) * 44 := by
              have h9 := factB_len (x, y) ⟨hx0, hx1, hy0, hy1⟩
              rw [size_list, hin, List.length_append, ← HTA2.out, ← size_list]; omega
            go_roundg (fn - (j + 1))
            case measure => have := HG2.out; omega
            case rel => exact ⟨j + 1, _, _, by omega, rfl, rfl, by go_num, belowT (belowA hBx _) hb3, hin, hinl, by rw [HFX.out, HD2.out]; simp⟩
          · have hnb : acc ++ nogoodB (fs, d) = acc' ++ [10] := by rw [HFX.out, List.drop_eq_nil_of_le (by have := HFN.out; omega)]; simp
            have hin : (t' ++ ⟨#[10]⟩ : ByteArray).data.toList = acc ++ nogoodB (fs, d) := by
              rw [hnb, ByteArray.data_append, Array.toList_append, HTA2.out]
            have hinl : (t' ++ ⟨#[10]⟩ : ByteArray).size ≤ 29 + (k + 1) * 3000 := by
              rw [size_list, ByteArray.data_append, Array.toList_append, List.length_append, ← size_list]; simp; omega
            have HNB := Lib.hid hnb
            have HIN := Lib.hid hin
            have HINL := Lib.hid hinl
            clear hnb hin hinl
            go_wp2
            go_roundg (n - (k + 1))
            case measure => have := HG.out; omega
            case rel => exact ⟨k + 1, _, _, by omega, rfl, rfl, by go_num, hBx, HIN.out, HINL.out, by rw [HF.out, HD.out]; simp⟩
      · have hfin : headB bd ++ l.flatMap nogoodB = acc := by rw [HF.out, List.drop_eq_nil_of_le (by have := HN.out; omega)]; simp
        have hstr : t = ⟨(headB bd ++ l.flatMap nogoodB).toArray⟩ := by
          apply ByteArray.ext
          rw [hfin, ← HTA.out]
        have HFIN := Lib.hid hfin
        have HSTR := Lib.hid hstr
        clear hfin hstr
        go_wp2
        go_ret
        exact ⟨by rw [← HSTR.out]; rfl, hB⟩
end Go.Proofs.YticdfbhbbapbdaaDoor
