/- script: bits, unbits. -/
import Derived.Test.YtcocmljollnpdaaDoorSc3
namespace Go.Proofs.YtcocmljollnpdaaDoor
open Go Go.RowKit Go.Dm
set_option linter.unusedVariables false
set_option linter.unusedSimpArgs false

set_option maxHeartbeats 4000000 in
set_option maxRecDepth 100000 in
theorem bits_any {w : World} {v : Value} {l : List Bool} (h : Row1 w v (l.map Value.bool)) (hl : l.length ≤ 1073741824) :
    Calls Tryd.prog 31 #[v] w fun e w' => e = .returned (Str (bitsL l)) ∧ Only (fun _ => False) w w' := by
  by_cases h0 : l = []
  · subst h0
    obtain ⟨a, cap, rfl, _⟩ := h
    go_enter Tryd.func31, Tryd.ntmps31
    go_wp2_with fail
    go_ret
    exact ⟨rfl, Only.refl _ _⟩
  · have hn : 0 < l.length := List.length_pos_iff.2 h0
    have HL := Lib.hid (show bitsL l = l.map bitC by unfold bitsL; rw [if_neg h0])
    obtain ⟨b, o, cap, hv, hcap, hmax, hb, hc⟩ := h.addr (by simpa using hn)
    rw [List.length_map] at hv
    subst hv
    clear h0 h
    generalize hN : l.length = n at *
    have HN := Lib.hid hN
    clear hN
    have g : ((n : Int) == 0) = false := by simp; omega
    go_enter Tryd.func31, Tryd.ntmps31
    go_wp2_with fail
    go_loopw [11] (fun iv wr => ∃ k : Nat, k ≤ n ∧ iv = .int .i64 (k : Int) ∧ Hid (Bld w.heap.size w.heap.size ((l.take k).map bitC) wr) ∧ Below w.heap.size w wr) (fun iv _ => n - (intOf iv).toNat)
    case atStart => exact ⟨0, Nat.zero_le _, rfl, Lib.fresh_isBuilder 62 5 w, (Below.refl _ w).alloc (Nat.le_refl _) _⟩
    case round =>
      obtain ⟨k, hk, rfl, HB, ho⟩ := hrel
      by_cases hlt : k < n
      · have hx : l[k]? = some (l[k]'(by rw [HN.out]; exact hlt)) := List.getElem?_eq_getElem _
        have HT := Lib.hid (show l.take (k + 1) = l.take k ++ [l[k]'(by rw [HN.out]; exact hlt)] from List.take_succ_eq_append_getElem _)
        have hcell : wr.cell? ⟨b, o + k, none⟩ = some (.bool (l[k]'(by rw [HN.out]; exact hlt))) := by
          rw [ho.cell (p := ⟨b, o + k, none⟩) hb]
          exact hc k _ (by rw [List.getElem?_map, hx]; rfl)
        generalize l[k]'(by rw [HN.out]; exact hlt) = x at *
        have hlen : ((l.take k).map bitC).length = k := by rw [List.length_map, List.length_take, HN.out]; omega
        have Hlen := Lib.hid hlen
        clear hx hc hlen
        cases x
        · go_wp2_with fail
          refine (writeByte_any 48 rfl HB.out (by rw [Hlen.out]; omega) ho.size).mono ?_
          rintro e w2 ⟨rfl, HB2, ho2⟩
          have HB2 := Lib.hid HB2
          have ho3 := ho.trans ho2
          go_wp2_with fail
          go_roundw
          case rel => exact ⟨k + 1, by omega, by simp, by rw [HT.out, List.map_append]; exact HB2, ho3⟩
          case measure => simp [intOf]; omega
        · go_wp2_with fail
          refine (writeByte_any 49 rfl HB.out (by rw [Hlen.out]; omega) ho.size).mono ?_
          rintro e w2 ⟨rfl, HB2, ho2⟩
          have HB2 := Lib.hid HB2
          have ho3 := ho.trans ho2
          go_wp2_with fail
          go_roundw
          case rel => exact ⟨k + 1, by omega, by simp, by rw [HT.out, List.map_append]; exact HB2, ho3⟩
          case measure => simp [intOf]; omega
      · obtain rfl : k = n := by omega
        clear hc
        go_wp2_with fail
        refine (bldString_any HB.out ho.size).mono ?_
        rintro e w1 ⟨rfl, ho1⟩
        go_wp2_with fail
        go_ret
        exact ⟨by rw [HL.out, ← HN.out, List.take_of_length_le (by simp)]; rfl, Only.of_below (ho.trans ho1)⟩

def trs (l : List UInt8) : List Value := (l.map (· == 49)).map Value.bool
theorem one_new (w : World) (x : Value) (t : TypeId) : ∀ j u, ([x] : List Value)[j]? = some u → (w.alloc (.cells #[x] t)).cell? ((⟨w.heap.size, 0, none⟩ : Addr).add j) = some u := fun j u hj => by
  rw [add_none, Nat.zero_add]
  exact (cell_of_blk blk_alloc_new j).trans (by simpa using hj)
theorem one_bool (x : Bool) : ∀ u ∈ ([.bool x] : List Value), u.oneCell' = true := fun u hu => by
  simp at hu; subst hu; rfl
theorem one_int (k : IntKind) (x : Int) : ∀ u ∈ ([.int k x] : List Value), u.oneCell' = true := fun u hu => by
  simp at hu; subst hu; rfl
theorem one_str (x : ByteArray) : ∀ u ∈ ([.string x] : List Value), u.oneCell' = true := fun u hu => by
  simp at hu; subst hu; rfl
theorem info4 : (Tryd.prog.info? 4).map (fun i => (i.zero, i.size, i.bytes)) = some (some (.bool false), 1, 1) := by kernel_rfl
theorem und25 : Tryd.prog.underlying 25 = some (.slice 4) := by kernel_rfl

/-- What unbits hands back. -/
def UnbitsR (l : List UInt8) (w : World) (e : Ending) (w' : World) : Prop :=
  Only (fun _ => False) w w' ∧ ((∃ v bs, unbitsL l = some bs ∧ e = .returned (.tuple #[v, .bool true]) ∧ Row1 w' v (bs.map Value.bool) ∧ ∀ c, v.ownBlock = some c → w.heap.size ≤ c) ∨ (unbitsL l = none ∧ ∃ v, e = .returned (.tuple #[v, .bool false])))

theorem unbits_bad {s : ByteArray} {k : Nat} (h : k < s.size) (h1 : s.data.toList ≠ [45]) (hb : okBit s[k] = false) : unbitsL s.data.toList = none := by
  unfold unbitsL
  rw [if_neg h1]
  split
  · rfl
  · rw [if_neg]
    intro ha
    have := List.all_eq_true.1 ha s[k] (by
      rw [List.mem_iff_getElem]
      exact ⟨k, by simpa using h, rfl⟩)
    rw [hb] at this
    cases this

set_option maxHeartbeats 4000000 in
set_option maxRecDepth 100000 in
theorem unbits_any (s : ByteArray) (hs : s.size ≤ 1073741824) {w : World} :
    Calls Tryd.prog 24 #[.string s] w (UnbitsR s.data.toList w) := by
  by_cases h1 : s.data.toList = [45]
  · have hq : (s.toList == [45]) = true := by rw [ByteArray.toList_eq, h1]; rfl
    have HL := Lib.hid (show unbitsL s.data.toList = some [] by rw [h1]; rfl)
    clear h1
    go_enter Tryd.func24, Tryd.ntmps24
    go_wp2_with fail
    go_ret2
    exact ⟨Only.refl _ _, .inl ⟨_, _, HL.out, rfl, Row1.nil w, fun c hc => by cases hc⟩⟩
  · have hq : (s.toList == [45]) = false := by rw [ByteArray.toList_eq]; simpa using h1
    have H1 := Lib.hid h1
    obtain ⟨i0, hinf, hz0, hz1, hz2⟩ := info_parts info4
    have Hinf := Lib.hid hinf
    have Hz0 := Lib.hid hz0
    have Hz1 := Lib.hid hz1
    have Hz2 := Lib.hid hz2
    clear h1 hinf hz0 hz1 hz2
    go_enter Tryd.func24, Tryd.ntmps24
    go_wp2_with fail
    go_loopw [4, 10] (fun ov iv wr => ∃ (k : Nat), k ≤ s.size ∧ iv = .int .i64 (k : Int) ∧ Hid ((s.data.toList.take k).all okBit = true) ∧ Hid (wr.ownsRow w.heap.size 4 1 ov k (trs (s.data.toList.take k))) ∧ Only (fun _ => False) w wr) (fun _ iv _ => s.size - (intOf iv).toNat)
    case atStart => exact ⟨0, Nat.zero_le _, rfl, by unfold Hid; rfl, own_nil _ _ _ _, Only.refl _ _⟩
    case round =>
      obtain ⟨k, hk, rfl, HA, HO, ho⟩ := hrel
      by_cases hlt : k < s.size
      · have HT := Lib.hid (take_snoc s k hlt)
        have b0 : (s[k].toNat : Int) < 256 := by have := s[k].toNat_lt; omega
        by_cases c0 : s[k] = 48
        · have n0 : s[k].toNat = 48 := by rw [c0]; rfl
          have HA2 := Lib.hid (show (s.data.toList.take (k + 1)).all okBit = true by rw [HT.out, List.all_append, HA.out, c0]; rfl)
          have HM := Lib.hid (show trs (s.data.toList.take (k + 1)) = trs (s.data.toList.take k) ++ [.bool false] by unfold trs; rw [HT.out, List.map_append, List.map_append, c0]; rfl)
          clear HA c0
          obtain ⟨ad, cv, rfl⟩ := own_slice HO.out
          go_wp2_with (refine wpList_append_own_at _ rfl _ _ 25 rfl w.heap.size 4 i0 (.bool false) 1 1 und25 Hinf.out Hz0.out Hz1.out Hz2.out rfl (by decide) (.slice ad k cv) k (trs (s.data.toList.take k)) rfl (HO.out.alloc _) ⟨wr.heap.size, 0, none⟩ 1 1 [.bool false] rfl rfl (one_new _ _ _) (one_bool _) (by unfold maxLen; omega) (by omega) (Nat.le_trans ho.size (by simp)) ?_)
          intro v4 w4 hown4 hgrow4 _ _
          have ho4 := own_grown (ho.alloc (.cells #[.bool false] 4)) (HO.out.alloc _) (Nat.le_refl _) hgrow4
          have HO4 := Lib.hid hown4
          clear hown4 hgrow4
          go_wp2_with fail
          go_roundw
          case rel => exact ⟨k + 1, by omega, by simp, HA2, by unfold Hid; rw [HM.out]; exact HO4.out, ho4⟩
          case measure => simp [intOf]; omega
        · by_cases c1 : s[k] = 49
          · have n0 : s[k].toNat = 49 := by rw [c1]; rfl
            have HA2 := Lib.hid (show (s.data.toList.take (k + 1)).all okBit = true by rw [HT.out, List.all_append, HA.out, c1]; rfl)
            have HM := Lib.hid (show trs (s.data.toList.take (k + 1)) = trs (s.data.toList.take k) ++ [.bool true] by unfold trs; rw [HT.out, List.map_append, List.map_append, c1]; rfl)
            clear HA c1
            obtain ⟨ad, cv, rfl⟩ := own_slice HO.out
            go_wp2_with (refine wpList_append_own_at _ rfl _ _ 25 rfl w.heap.size 4 i0 (.bool false) 1 1 und25 Hinf.out Hz0.out Hz1.out Hz2.out rfl (by decide) (.slice ad k cv) k (trs (s.data.toList.take k)) rfl (HO.out.alloc _) ⟨wr.heap.size, 0, none⟩ 1 1 [.bool true] rfl rfl (one_new _ _ _) (one_bool _) (by unfold maxLen; omega) (by omega) (Nat.le_trans ho.size (by simp)) ?_)
            intro v4 w4 hown4 hgrow4 _ _
            have ho4 := own_grown (ho.alloc (.cells #[.bool true] 4)) (HO.out.alloc _) (Nat.le_refl _) hgrow4
            have HO4 := Lib.hid hown4
            clear hown4 hgrow4
            go_wp2_with fail
            go_roundw
            case rel => exact ⟨k + 1, by omega, by simp, HA2, by unfold Hid; rw [HM.out]; exact HO4.out, ho4⟩
            case measure => simp [intOf]; omega
          · have HN := Lib.hid (unbits_bad hlt H1.out (by simp [okBit, c0, c1]))
            have n0 : s[k].toNat ≠ 48 := fun e => c0 (UInt8.toNat_inj.1 e)
            have n1 : s[k].toNat ≠ 49 := fun e => c1 (UInt8.toNat_inj.1 e)
            have m0 : ((s[k].toNat : Int) != 48) = true := by simp; omega
            have m1 : ((s[k].toNat : Int) != 49) = true := by simp; omega
            clear c0 c1 n0 n1
            go_wp2_with fail
            go_ret2
            exact ⟨ho, .inr ⟨HN.out, _, rfl⟩⟩
      · obtain rfl : k = s.size := by omega
        obtain ⟨ad, cv, rfl⟩ := own_slice HO.out
        have HR := Lib.hid (Row1.of_own HO.out)
        have HB := Lib.hid (fun c hc => (own_blk (c := c) HO.out hc).1)
        have HU := Lib.hid (show ¬ s.size = 0 → unbitsL s.data.toList = some (s.data.toList.map (· == 49)) by
          intro h
          have ha := HA.out
          rw [take_all] at ha
          unfold unbitsL
          rw [if_neg H1.out, if_neg (fun e => h (by have := congrArg List.length e; simpa using this)), if_pos ha])
        have HZ := Lib.hid (show s.size = 0 → unbitsL s.data.toList = none by
          intro h
          have : s.data.toList = [] := List.eq_nil_of_length_eq_zero (by simpa using h)
          rw [this]; rfl)
        clear HA HO
        by_cases hz : s.size = 0
        · have hz' : decide (0 < (s.size : Int)) = false := decide_eq_false (by omega)
          have hz2 : decide (0 < s.size) = false := decide_eq_false (by omega)
          have HN := Lib.hid (HZ.out hz)
          clear hz HU HZ
          go_wp2_with fail
          go_ret2
          exact ⟨ho, .inr ⟨HN.out, _, rfl⟩⟩
        · have hz' : decide (0 < (s.size : Int)) = true := decide_eq_true (by omega)
          have hz2 : decide (0 < s.size) = true := decide_eq_true (by omega)
          have HN := Lib.hid (HU.out hz)
          clear HU HZ
          go_wp2_with fail
          go_ret2
          have h := HR.out
          rw [take_all] at h
          exact ⟨ho, .inl ⟨_, _, HN.out, rfl, h, HB.out⟩⟩
end Go.Proofs.YtcocmljollnpdaaDoor
