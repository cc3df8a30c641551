/- script: Hex, Unhex, bits, unbits, numbers, kind: what they compute. -/
import Derived.Test.YtcocmljollnpdaaDoorSc1
namespace Go.Proofs.YtcocmljollnpdaaDoor
open Go Go.RowKit Go.Dm
set_option linter.unusedVariables false
set_option linter.unusedSimpArgs false

theorem take_snoc (s : ByteArray) (k : Nat) (h : k < s.size) : s.data.toList.take (k + 1) = s.data.toList.take k ++ [s[k]] := by
  rw [List.take_succ_eq_append_getElem (by simpa using h)]; rfl
theorem take_all (s : ByteArray) : s.data.toList.take s.size = s.data.toList := List.take_of_length_le (by simp)
theorem isEmpty_true {s : ByteArray} (h : s.data.toList = []) : s.toList.isEmpty = true := by rw [ByteArray.toList_eq, h]; rfl
theorem isEmpty_false {s : ByteArray} (h : s.data.toList ≠ []) : s.toList.isEmpty = false := by
  rw [ByteArray.toList_eq]
  cases hs : s.data.toList with
  | nil => exact absurd hs h
  | cons _ _ => rfl
theorem dig_fin_at : ∀ i : Fin 16, ((⟨#[48, 49, 50, 51, 52, 53, 54, 55, 56, 57, 97, 98, 99, 100, 101, 102]⟩ : ByteArray)[i.val]'i.isLt) = hexD i.val := by decide +kernel
theorem dig_at {i : Nat} (h : i < 16) (h' : i < (⟨#[48, 49, 50, 51, 52, 53, 54, 55, 56, 57, 97, 98, 99, 100, 101, 102]⟩ : ByteArray).size) :
    (((⟨#[48, 49, 50, 51, 52, 53, 54, 55, 56, 57, 97, 98, 99, 100, 101, 102]⟩ : ByteArray)[i]'h').toNat : Int) = ((hexD i).toNat : Int) :=
  congrArg (fun c : UInt8 => (c.toNat : Int)) (dig_fin_at ⟨i, h⟩)
theorem flat_snoc (l : List UInt8) (c : UInt8) : (l ++ [c]).flatMap hexC = l.flatMap hexC ++ [hexD (c.toNat / 16)] ++ [hexD (c.toNat % 16)] := by
  simp [List.flatMap_append, hexC]

set_option maxHeartbeats 4000000 in
set_option maxRecDepth 100000 in
theorem hex_any (s : ByteArray) (hs : s.size ≤ 1073741824) {w : World} :
    Calls Tryd.prog 14 #[.string s] w fun e w' => e = .returned (Str (hexL s.data.toList)) ∧ Only (fun _ => False) w w' := by
  by_cases h0 : s.data.toList = []
  · have hq := isEmpty_true h0
    have HL := Lib.hid (show hexL s.data.toList = [45] by rw [h0]; rfl)
    clear h0
    go_enter Tryd.func14, Tryd.ntmps14
    go_wp2_with fail
    go_ret
    exact ⟨by rw [HL.out]; rfl, Only.refl _ _⟩
  · have hq := isEmpty_false h0
    have HL := Lib.hid (show hexL s.data.toList = s.data.toList.flatMap hexC by unfold hexL; rw [if_neg h0])
    clear h0
    go_enter Tryd.func14, Tryd.ntmps14
    go_wp2_with fail
    go_loopw [9] (fun iv wr => ∃ k : Nat, k ≤ s.size ∧ iv = .int .i64 (k : Int) ∧ Hid (Bld w.heap.size w.heap.size ((s.data.toList.take k).flatMap hexC) wr) ∧ Below w.heap.size w wr) (fun iv _ => s.size - (intOf iv).toNat)
    case atStart => exact ⟨0, Nat.zero_le _, rfl, Lib.fresh_isBuilder 62 5 w, (Below.refl _ w).alloc (Nat.le_refl _) _⟩
    case round =>
      obtain ⟨k, hk, rfl, hb, ho⟩ := hrel
      by_cases hlt : k < s.size
      · have b0 : (s[k].toNat : Int) < 256 := by have := s[k].toNat_lt; omega
        have b1 : s[k].toNat < 256 := s[k].toNat_lt
        have hl : ((s.data.toList.take k).flatMap hexC).length = 2 * k := by rw [flat_len, List.length_take]; simp; omega
        have HT := Lib.hid (take_snoc s k hlt)
        have Hl := Lib.hid hl
        clear hl
        go_wp2_with fail
        refine (writeByte_any (hexD (s[k].toNat / 16)) (dig_at (by omega) _) hb.out (by rw [Hl.out]; omega) ho.size).mono ?_
        rintro e w1 ⟨rfl, hb1, ho1⟩
        have hb1 := Lib.hid hb1
        have ho1 := ho.trans ho1
        go_wp2_with fail
        refine (writeByte_any (hexD (s[k].toNat % 16)) (dig_at (by omega) _) hb1.out (by rw [List.length_append, Hl.out]; simp; omega) ho1.size).mono ?_
        rintro e w2 ⟨rfl, hb2, ho2⟩
        have hb2 := Lib.hid hb2
        have ho2 := ho1.trans ho2
        go_wp2_with fail
        go_roundw
        case rel => exact ⟨k + 1, by omega, by simp, show Bld _ _ _ _ by rw [HT.out, flat_snoc]; exact hb2.out, ho2⟩
        case measure => simp [intOf]; omega
      · obtain rfl : k = s.size := by omega
        go_wp2_with fail
        refine (bldString_any hb.out ho.size).mono ?_
        rintro e w1 ⟨rfl, ho1⟩
        go_wp2_with fail
        go_ret
        exact ⟨by rw [HL.out, take_all]; rfl, Only.of_below (ho.trans ho1)⟩
end Go.Proofs.YtcocmljollnpdaaDoor
