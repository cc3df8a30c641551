/- script: Unhex; the law's own hex. -/
import Derived.Test.YtcocmljollnpdaaDoorSc2
namespace Go.Proofs.YtcocmljollnpdaaDoor
open Go Go.RowKit Go.Dm
set_option linter.unusedVariables false
set_option linter.unusedSimpArgs false

theorem byte_back (c : UInt8) : (c.toNat : Int).toNat.toUInt8 = c := by simp
theorem ba_ext {s t : ByteArray} (h : s.data.toList = t.data.toList) : s = t := by
  obtain ⟨⟨l⟩⟩ := s; obtain ⟨⟨m⟩⟩ := t; simp at h; rw [h]

theorem slice_nat (w : World) : ∀ i : Nat, i < 16 → (Instr.slice 9 (.string ⟨#[48, 49, 50, 51, 52, 53, 54, 55, 56, 57, 97, 98, 99, 100, 101, 102]⟩) (some (.int .u8 (i : Int))) (some (.int .u8 ((i : Int) + 1))) none).run Tryd.prog w = .ok (Str [hexD i]) w
  | 0, _ => by kernel_rfl
  | 1, _ => by kernel_rfl
  | 2, _ => by kernel_rfl
  | 3, _ => by kernel_rfl
  | 4, _ => by kernel_rfl
  | 5, _ => by kernel_rfl
  | 6, _ => by kernel_rfl
  | 7, _ => by kernel_rfl
  | 8, _ => by kernel_rfl
  | 9, _ => by kernel_rfl
  | 10, _ => by kernel_rfl
  | 11, _ => by kernel_rfl
  | 12, _ => by kernel_rfl
  | 13, _ => by kernel_rfl
  | 14, _ => by kernel_rfl
  | 15, _ => by kernel_rfl
  | n + 16, h => absurd h (by omega)
theorem slice_int (w : World) {x : Int} {i : Nat} (hx : x = (i : Int)) (hi : i < 16) : (Instr.slice 9 (.string ⟨#[48, 49, 50, 51, 52, 53, 54, 55, 56, 57, 97, 98, 99, 100, 101, 102]⟩) (some (.int .u8 x)) (some (.int .u8 (x + 1))) none).run Tryd.prog w = .ok (Str [hexD i]) w := by
  subst hx; exact slice_nat w i hi

set_option maxHeartbeats 4000000 in
set_option maxRecDepth 100000 in
theorem lhex_any (s : ByteArray) (hs : s.size ≤ 1073741824) {w : World} :
    Calls Tryd.prog 15 #[.string s] w fun e w' => e = .returned (Str (hexL s.data.toList)) ∧ Only (fun _ => False) w w' := by
  by_cases h0 : s.size = 0
  · have HL := Lib.hid (show hexL s.data.toList = [45] by rw [List.eq_nil_of_length_eq_zero (l := s.data.toList) (by simpa using h0)]; rfl)
    have g : ((s.size : Int) == 0) = true := by simp [h0]
    clear h0
    go_enter Tryd.func15, Tryd.ntmps15
    go_wp2_with fail
    go_ret
    exact ⟨by rw [HL.out]; rfl, Only.refl _ _⟩
  · have HL := Lib.hid (show hexL s.data.toList = s.data.toList.flatMap hexC by unfold hexL; rw [if_neg (fun e => h0 (by have := congrArg List.length e; simpa using this))])
    have g : ((s.size : Int) == 0) = false := by simp [h0]
    clear h0
    go_enter Tryd.func15, Tryd.ntmps15
    go_wp2_with fail
    go_loopw [3, 4] (fun ov iv wr => ∃ (k : Nat) (acc : ByteArray), k ≤ s.size ∧ iv = .int .i64 (k : Int) ∧ ov = .string acc ∧ Hid (acc.data.toList = (s.data.toList.take k).flatMap hexC) ∧ Only (fun _ => False) w wr) (fun _ iv _ => s.size - (intOf iv).toNat)
    case atStart => exact ⟨0, _, Nat.zero_le _, rfl, rfl, by unfold Hid; rfl, Only.refl _ _⟩
    case round =>
      obtain ⟨k, acc, hk, rfl, rfl, HA, ho⟩ := hrel
      by_cases hlt : k < s.size
      · have b0 : (s[k].toNat : Int) < 256 := by have := s[k].toNat_lt; omega
        have b2 : (0 : Int) ≤ (s[k].toNat : Int) := by omega
        have b1 : s[k].toNat < 256 := s[k].toNat_lt
        have q0 : (0 : Int) ≤ (k : Int) := by omega
        have q1 : (k : Int) < (s.size : Int) := by omega
        have hsz : acc.size ≤ 2147483648 := by
          have h1 : acc.size = acc.data.toList.length := by simp
          rw [h1, HA.out, flat_len, List.length_take]; simp; omega
        have HT := Lib.hid (take_snoc s k hlt)
        have e1 : ∀ w, _ := fun w => slice_int w (x := (s[k].toNat : Int) / 16) (i := s[k].toNat / 16) (by omega) (by omega)
        have e2 : ∀ w, _ := fun w => slice_int w (x := (s[k].toNat : Int) % 16) (i := s[k].toNat % 16) (by omega) (by omega)
        unfold Str at *
        go_wp2_with fail
        refine wp_region_segR [1,1,1,1,1,1,1,1,1,1,1,1,1,1,1,1,1,1,1,1,1,1,1,1] (by kernel_rfl) (by kernel_rfl) ?_
        refine seg_reads 24 (by decide) (by decide) ?_
        simp only [List.take_succ_cons, List.take_zero, List.drop_succ_cons, List.drop_zero]
        iterate 24 (go_big_quiet_step (fail))
        refine wpQuiet_nil ?_
        clear e1 e2
        refine seg_nil_intro ?_
        go_wp2_with fail
        go_roundw
        case rel => exact ⟨k + 1, _, by omega, by simp, rfl, by unfold Hid; rw [HT.out, flat_snoc, ← HA.out]; simp, ho.drew⟩
        case measure => simp [intOf]; omega
      · obtain rfl : k = s.size := by omega
        go_wp2_with fail
        go_ret
        exact ⟨by rw [HL.out, ← take_all s, ← HA.out]; rfl, ho⟩
theorem dig_any (c : UInt8) (w : World) : Calls Tryd.prog 26 #[.string ⟨#[48, 49, 50, 51, 52, 53, 54, 55, 56, 57, 97, 98, 99, 100, 101, 102]⟩, .int .u8 (c.toNat : Int)] w fun e w' => e = .returned (.int .i64 (dig c)) ∧ w = w' := by
  refine (Tryd.strings_IndexByte _ _ _).mono ?_
  rintro e w' ⟨he, hw⟩
  rw [byte_back] at he
  exact ⟨he, hw.symm⟩

theorem unhex_at (s : ByteArray) (k : Nat) (h : 2 * k + 1 < s.size) {acc : List UInt8} (ha : unhexGo (s.data.toList.take (2 * k)) = some acc) :
    (dig s[2 * k] < 0 ∨ dig s[2 * k + 1] < 0 → unhexGo s.data.toList = none) ∧ (¬ dig s[2 * k] < 0 → ¬ dig s[2 * k + 1] < 0 → unhexGo (s.data.toList.take (2 * (k + 1))) = some (acc ++ [hexV s[2 * k] s[2 * k + 1]])) := by
  have hl : s.data.toList.length = s.size := by simp
  have e : s.data.toList = s.data.toList.take (2 * k) ++ s[2 * k] :: s[2 * k + 1] :: s.data.toList.drop (2 * k + 2) := by
    have h1 := (List.take_append_drop (2 * k) s.data.toList).symm
    rw [List.drop_eq_getElem_cons (by omega), List.drop_eq_getElem_cons (by omega)] at h1
    exact h1
  constructor
  · intro hb
    rw [e, unhexGo_two ha, if_pos hb]
  · intro h1 h2
    have e2 : s.data.toList.take (2 * (k + 1)) = s.data.toList.take (2 * k) ++ s[2 * k] :: s[2 * k + 1] :: [] := by
      have t1 := take_snoc s (2 * k) (by omega)
      have t2 := take_snoc s (2 * k + 1) h
      rw [show 2 * (k + 1) = 2 * k + 1 + 1 by omega, t2, t1]; simp
    rw [e2, unhexGo_two ha, if_neg (by omega)]
    simp [unhexGo]

theorem or_fin : ∀ a b : Fin 16, bits BinOp.or IntKind.i64 ((a.val : Int) * 16) (b.val : Int) % 256 = ((UInt8.ofNat (16 * a.val + b.val)).toNat : Int) := by decide +kernel
theorem or_dig {x y : UInt8} (x0 : 0 ≤ dig x) (x1 : dig x < 16) (y0 : 0 ≤ dig y) (y1 : dig y < 16) : bits BinOp.or IntKind.i64 (dig x * 16) (dig y) % 256 = ((hexV x y).toNat : Int) := by
  have h := or_fin ⟨(dig x).toNat, by omega⟩ ⟨(dig y).toNat, by omega⟩
  dsimp only at h
  rw [Int.toNat_of_nonneg x0, Int.toNat_of_nonneg y0] at h
  exact h
theorem unhex_len {s : ByteArray} {k : Nat} {acc : List UInt8} (h : unhexGo (s.data.toList.take (2 * k)) = some acc) (hk : 2 * k < s.size) : acc.length = k := by
  have h1 := congrArg List.length (unhexGo_flat _ _ _ (Nat.le_refl _) h)
  rw [flat_len, List.length_take] at h1
  simp at h1
  omega
theorem Bld.drew {B b : Nat} {l : List UInt8} {w : World} (h : Bld B b l w) : Bld B b l w.drew := h

set_option maxHeartbeats 4000000 in
set_option maxRecDepth 100000 in
/-- Unhex, of digits. -/
theorem unhex_any (s : ByteArray) (hs : s.size ≤ 1073741824) {w : World} :
    Calls Tryd.prog 13 #[.string s] w fun e w' => (e = .returned (.tuple #[Str ((unhexL s.data.toList).getD []), .bool (unhexL s.data.toList).isSome])) ∧ Only (fun _ => False) w w' := by
  by_cases h1 : s.data.toList = [45]
  · have hq : (s.toList == [45]) = true := by rw [ByteArray.toList_eq, h1]; rfl
    have HL := Lib.hid (show unhexL s.data.toList = some [] by rw [h1]; rfl)
    clear h1
    go_enter Tryd.func13, Tryd.ntmps13
    go_wp2_with fail
    go_ret2
    exact ⟨by rw [HL.out]; rfl, Only.refl _ _⟩
  · have hq : (s.toList == [45]) = false := by rw [ByteArray.toList_eq]; simpa using h1
    by_cases h2 : s.data.toList = []
    · have HL := Lib.hid (show unhexL s.data.toList = none by rw [h2]; rfl)
      have hq2 := isEmpty_true h2
      clear h1 h2
      go_enter Tryd.func13, Tryd.ntmps13
      go_wp2_with fail
      go_ret2
      exact ⟨by rw [HL.out]; rfl, Only.refl _ _⟩
    · have hq2 := isEmpty_false h2
      by_cases h3 : s.size % 2 = 0
      · have hq3 : ((s.size : Int) % 2 != 0) = false := by simp; omega
        have HL := Lib.hid (show unhexL s.data.toList = unhexGo s.data.toList by unfold unhexL; rw [if_neg h1, if_neg]; rintro (h | h); exact h2 h; simp at h; omega)
        clear h1 h2
        go_enter Tryd.func13, Tryd.ntmps13
        go_wp2_with fail
        go_loopw [5] (fun iv wr => ∃ (k : Nat) (acc : List UInt8), 2 * k ≤ s.size ∧ iv = .int .i64 (2 * (k : Int)) ∧ Hid (unhexGo (s.data.toList.take (2 * k)) = some acc) ∧ Hid (Bld w.heap.size w.heap.size acc wr) ∧ Below w.heap.size w wr) (fun iv _ => s.size - (intOf iv).toNat)
        case atStart => exact ⟨0, [], Nat.zero_le _, rfl, by unfold Hid; rfl, Lib.fresh_isBuilder 62 5 w, (Below.refl _ w).alloc (Nat.le_refl _) _⟩
        case round =>
          obtain ⟨k, acc, hk, rfl, HA, HB, ho⟩ := hrel
          by_cases hlt : 2 * k < s.size
          · have hlt1 : 2 * k + 1 < s.size := by omega
            have g0 : (0 : Int) ≤ 2 * (k : Int) := by omega
            have g1 : 2 * (k : Int) < (s.size : Int) := by omega
            have g2 : 2 * (k : Int) + 1 < (s.size : Int) := by omega
            have g3 : (0 : Int) ≤ 2 * (k : Int) + 1 := by omega
            go_wp2_with fail
            refine wp_region_segR [1,1,1,2,0,0,0,0,2,2,2] (by kernel_rfl) (by kernel_rfl) ?_
            refine seg_reads 3 (by decide) (by decide) ?_
            simp only [List.take_succ_cons, List.take_zero, List.drop_succ_cons, List.drop_zero]
            iterate 3 (go_big_quiet_step (fail))
            refine wpQuiet_nil ?_
            refine seg_step (by kernel_rfl) ?_
            go_wp2_with fail
            refine (dig_any _ _).mono ?_
            rintro e w1 ⟨rfl, rfl⟩
            go_wp2_with fail
            refine strict_intro ?_
            refine seg_free rfl ?_
            go_big_quiet_step (fail)
            refine wpQuiet_nil ?_
            refine seg_free rfl ?_
            go_big_quiet_step (fail)
            refine wpQuiet_nil ?_
            refine seg_free rfl ?_
            go_big_quiet_step (fail)
            refine wpQuiet_nil ?_
            refine seg_free rfl ?_
            go_big_quiet_step (fail)
            refine wpQuiet_nil ?_
            refine seg_list' _ _ _ _ (by kernel_rfl) ?_
            go_wp2_with fail
            refine (dig_any _ _).mono ?_
            rintro e w2 ⟨rfl, rfl⟩
            go_wp2_with fail
            refine strict_intro ?_
            have hx := dig_cases s[2 * k]
            have hy := dig_cases s[2 * k + 1]
            have HT := Lib.hid (unhex_at s k hlt1 HA.out)
            by_cases x0 : dig s[2 * k] < 0
            · have HN := Lib.hid (HT.out.1 (.inl x0))
              clear HT hx hy
              go_wp2_with fail
              go_ret2
              exact ⟨by rw [HL.out, HN.out]; rfl, Only.of_below ho.drew⟩
            · by_cases y0 : dig s[2 * k + 1] < 0
              · have HN := Lib.hid (HT.out.1 (.inr y0))
                have x1 : decide (dig s[2 * k] < 0) = false := by simpa using x0
                clear HT hx hy
                go_wp2_with fail
                go_ret2
                exact ⟨by rw [HL.out, HN.out]; rfl, Only.of_below ho.drew⟩
              · have HN := Lib.hid (HT.out.2 x0 y0)
                have x1 : decide (dig s[2 * k] < 0) = false := by simpa using x0
                have y1 : decide (dig s[2 * k + 1] < 0) = false := by simpa using y0
                have x2 : 0 ≤ dig s[2 * k] := by omega
                have y2 : 0 ≤ dig s[2 * k + 1] := by omega
                have x3 : dig s[2 * k] < 16 := by omega
                have y3 : dig s[2 * k + 1] < 16 := by omega
                clear HT hx hy
                have hlen : acc.length = k := unhex_len HA.out hlt
                go_wp2_with fail
                refine (writeByte_any (hexV s[2 * k] s[2 * k + 1]) (or_dig x2 x3 y2 y3) (show Bld _ _ _ _ from Bld.drew HB.out) (by omega) ho.drew.size).mono ?_
                rintro e w2 ⟨rfl, HB2, ho2⟩
                have HB2 := Lib.hid HB2
                have ho3 := ho.drew.trans ho2
                go_wp2_with fail
                go_roundw
                case rel => exact ⟨k + 1, _, by omega, by simp; omega, HN, HB2, ho3⟩
                case measure => simp [intOf]; omega
          · have hk2 : 2 * k = s.size := by omega
            have HA2 := Lib.hid (show unhexGo s.data.toList = some acc by rw [← take_all s, ← hk2]; exact HA.out)
            clear HA
            go_wp2_with fail
            refine (bldString_any HB.out ho.size).mono ?_
            rintro e w1 ⟨rfl, ho1⟩
            go_wp2_with fail
            go_ret2
            exact ⟨by rw [HL.out, HA2.out]; rfl, Only.of_below (ho.trans ho1)⟩
      · have hq3 : ((s.size : Int) % 2 != 0) = true := by simp; omega
        have HL := Lib.hid (show unhexL s.data.toList = none by unfold unhexL; rw [if_neg h1, if_pos]; exact .inr (by simpa using h3))
        clear h1 h2
        go_enter Tryd.func13, Tryd.ntmps13
        go_wp2_with fail
        go_ret2
        exact ⟨by rw [HL.out]; rfl, Only.refl _ _⟩
end Go.Proofs.YtcocmljollnpdaaDoor
