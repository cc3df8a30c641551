/- script: numbers, kind. -/
import Derived.Test.YtcocmljollnpdaaDoorSc4
namespace Go.Proofs.YtcocmljollnpdaaDoor
open Go Go.RowKit Go.Dm
set_option linter.unusedVariables false
set_option linter.unusedSimpArgs false

/-- What number hands back. -/
def NumR (l : List UInt8) (w : World) (e : Ending) (w' : World) : Prop :=
  Only (fun _ => False) w w' ∧ ((∃ n, numL l = some n ∧ e = .returned (.tuple #[.int .i64 n, .bool true])) ∨ (numL l = none ∧ ∃ n, e = .returned (.tuple #[.int .i64 n, .bool false])))

theorem num_ok {l : List UInt8} {n : Int} (h : Lib.atoiAll l = .ok n) : numL l = if Lib.itoa n = l then some n else none := by unfold numL; rw [h]
theorem num_bad {l : List UInt8} (h : ∀ n, Lib.atoiAll l ≠ .ok n) : numL l = none := by
  unfold numL
  split
  · rename_i n hn; exact absurd hn (h n)
  · rfl

set_option maxHeartbeats 4000000 in
set_option maxRecDepth 100000 in
theorem number_any (s : ByteArray) (hs : s.size ≤ 1099511627776) {w : World} (hE : Env w) :
    Calls Tryd.prog 33 #[.string s] w (NumR s.data.toList w) := by
  have HE := Lib.hid hE
  clear hE
  go_enter Tryd.func33, Tryd.ntmps33
  go_wp2_with fail
  refine (atoi_any s hs HE.out).mono ?_
  rintro e w1 ⟨ho1, ⟨n, hn, rfl⟩ | ⟨hn, n, t, p, rfl⟩⟩
  · have hE1 := Lib.hid (HE.out.new ho1)
    have hR := Lib.hid (atoi_range hn)
    have hN := Lib.hid (num_ok hn)
    clear hn
    go_wp2_with fail
    refine (itoa_any hR.out hE1.out).mono ?_
    rintro e w2 ⟨rfl, ho2⟩
    by_cases hq : Lib.itoa n = s.data.toList
    · have hM := Lib.hid (show numL s.data.toList = some n by rw [hN.out, if_pos hq])
      have hs2 : s = ⟨(Lib.itoa n).toArray⟩ := ba_ext hq.symm
      have hs3 := Lib.hid hs2
      have hb : (Lib.itoa n == s.toList) = true := by rw [ByteArray.toList_eq, hq]; simp
      clear hN hq hs2
      unfold Str
      go_wp2_with fail
      go_ret2
      exact ⟨ho1.trans' ho2, .inl ⟨n, hM.out, rfl⟩⟩
    · have hM := Lib.hid (show numL s.data.toList = none by rw [hN.out, if_neg hq])
      have hb : (Lib.itoa n == s.toList) = false := by rw [ByteArray.toList_eq]; simpa using hq
      clear hN hq
      unfold Str
      go_wp2_with fail
      go_ret2
      exact ⟨ho1.trans' ho2, .inr ⟨hM.out, _, rfl⟩⟩
  · have hN := Lib.hid (num_bad hn)
    clear hn
    go_wp2_with fail
    go_ret2
    exact ⟨ho1, .inr ⟨hN.out, _, rfl⟩⟩

def lists (ws : List ByteArray) : List (List UInt8) := ws.map (·.data.toList)
/-- What numbers hands back. -/
def NumsR (ws : List ByteArray) (w : World) (e : Ending) (w' : World) : Prop :=
  Only (fun _ => False) w w' ∧ ((∃ v ns, numsL (lists ws) = some ns ∧ e = .returned (.tuple #[v, .bool true]) ∧ Row1 w' v (ns.map (Value.int .i64)) ∧ ∀ c, v.ownBlock = some c → w.heap.size ≤ c) ∨ (numsL (lists ws) = none ∧ ∃ v, e = .returned (.tuple #[v, .bool false])))
def ints (ns : List Int) : List Value := ns.map (Value.int .i64)
/-- The numbers so far. -/
def SoFar (ws : List ByteArray) (k : Nat) (B : Nat) (ov : Value) (wr : World) : Prop := ∃ ns, numsL ((lists ws).take k) = some ns ∧ wr.ownsRow B 3 1 ov k (ints ns)
theorem info3 : (Tryd.prog.info? 3).map (fun i => (i.zero, i.size, i.bytes)) = some (some (.int .i64 0), 1, 8) := by kernel_rfl
theorem und52 : Tryd.prog.underlying 52 = some (.slice 3) := by kernel_rfl

set_option maxHeartbeats 4000000 in
set_option maxRecDepth 100000 in
theorem numbers_any {v : Value} {ws : List ByteArray} {w : World} (hE : Env w) (h : Row1 w v (ws.map Value.string)) (hn : 0 < ws.length) (hn2 : ws.length ≤ 1000) (hw : ∀ x ∈ ws, x.size ≤ 1099511627776) :
    Calls Tryd.prog 22 #[v] w (NumsR ws w) := by
  have HE := Lib.hid hE
  obtain ⟨b, o, cap, hv, hcap, hmax, hb, hc⟩ := h.addr (by simpa using hn)
  rw [List.length_map] at hv hcap
  subst hv
  obtain ⟨i0, hinf, hz0, hz1, hz2⟩ := info_parts info3
  have Hinf := Lib.hid hinf
  have Hz0 := Lib.hid hz0
  have Hz1 := Lib.hid hz1
  have Hz2 := Lib.hid hz2
  clear hE h hinf hz0 hz1 hz2
  generalize hN : ws.length = n at *
  have HN := Lib.hid hN
  have HW := Lib.hid hw
  have HC := Lib.hid hc
  clear hN hw hc
  go_enter Tryd.func22, Tryd.ntmps22
  go_wp2_with fail
  go_loopw [4, 11] (fun ov iv wr => ∃ k : Nat, k ≤ n ∧ iv = .int .i64 (k : Int) ∧ Hid (SoFar ws k w.heap.size ov wr) ∧ Only (fun _ => False) w wr) (fun _ iv _ => n - (intOf iv).toNat)
  case atStart => exact ⟨0, Nat.zero_le _, rfl, ⟨[], rfl, own_nil _ _ _ _⟩, Only.refl _ _⟩
  case round =>
    obtain ⟨k, hk, rfl, HS, ho⟩ := hrel
    obtain ⟨ns, hns, hown⟩ := HS.out
    have hE1 := Lib.hid (HE.out.new ho)
    by_cases hlt : k < n
    · have hx : ws[k]? = some (ws[k]'(by rw [HN.out]; exact hlt)) := List.getElem?_eq_getElem _
      have hcell : wr.cell? ⟨b, o + k, none⟩ = some (.string (ws[k]'(by rw [HN.out]; exact hlt))) := by
        rw [World.cell?_of_block (w := w) (ho.block b hb id)]
        exact HC.out k _ (by rw [List.getElem?_map, hx]; rfl)
      have hsz : (ws[k]'(by rw [HN.out]; exact hlt)).size ≤ 1099511627776 := HW.out _ (List.getElem_mem _)
      generalize ws[k]'(by rw [HN.out]; exact hlt) = x at *
      have hxl : (lists ws)[k]? = some x.data.toList := by unfold lists; rw [List.getElem?_map, hx]; rfl
      have hxt := Lib.hid (nums_take hxl hns)
      have hxf := Lib.hid (nums_fail hxl hns)
      have HO := Lib.hid hown
      clear hx hxl hns hown HS
      have q1 : (k : Int) < (n : Int) := by omega
      go_wp2_with fail
      refine (number_any x hsz hE1.out).mono ?_
      rintro e w1 ⟨ho1, ⟨m, hm, rfl⟩ | ⟨hm, m, rfl⟩⟩
      · have hxt2 := Lib.hid (show numsL ((lists ws).take (k + 1)) = some (ns ++ [m]) by rw [hxt.out, hm]; rfl)
        have HO1 := Lib.hid (ownsRow_only HO.out ho1 (fun _ _ h => h))
        have hoo := ho.trans' ho1
        clear hxt hxf hm HO
        obtain ⟨ad, cv, rfl⟩ := own_slice HO1.out
        go_wp2_with (refine wpList_append_own_at _ rfl _ _ 52 rfl w.heap.size 3 i0 (.int .i64 0) 1 8 und52 Hinf.out Hz0.out Hz1.out Hz2.out rfl (by decide) (.slice ad k cv) k (ints ns) rfl (HO1.out.alloc _) ⟨w1.heap.size, 0, none⟩ 1 1 [.int .i64 m] rfl rfl (one_new _ _ _) (one_int _ _) (by unfold maxLen; omega) (by omega) (Nat.le_trans hoo.size (by simp)) ?_)
        intro v4 w4 hown4 hgrow4 _ _
        have ho4 := own_grown (hoo.alloc (.cells #[.int .i64 m] 3)) (HO1.out.alloc _) (Nat.le_refl _) hgrow4
        have HO4 := Lib.hid (show SoFar ws (k + 1) w.heap.size v4 w4 from ⟨ns ++ [m], hxt2.out, by unfold ints; rw [List.map_append]; exact hown4⟩)
        clear hown4 hgrow4
        go_wp2_with fail
        go_roundw
        case rel => exact ⟨k + 1, by omega, by simp, HO4, ho4⟩
        case measure => simp [intOf]; omega
      · have hf := Lib.hid (hxf.out hm)
        clear hxt hxf hm
        go_wp2_with fail
        go_ret2
        exact ⟨ho.trans' ho1, .inr ⟨hf.out, _, rfl⟩⟩
    · obtain rfl : k = n := by omega
      have hns2 := Lib.hid (show numsL (lists ws) = some ns by rw [← hns, List.take_of_length_le]; unfold lists; rw [List.length_map, HN.out]; exact Nat.le_refl _)
      have HR := Lib.hid (Row1.of_own hown)
      have HB := Lib.hid (fun c hc => (own_blk (c := c) hown hc).1)
      clear hns hown HS
      go_wp2_with fail
      go_ret2
      exact ⟨ho, .inl ⟨_, ns, hns2.out, rfl, HR.out, HB.out⟩⟩

def kindFrom (w : List UInt8) : Nat → List (List UInt8) → Nat
  | _, [] => 0
  | i, x :: r => if x ≠ [] ∧ x = w then i else kindFrom w (i + 1) r
def kindL (T : List (List UInt8)) (w : List UInt8) : Nat := kindFrom w 0 T

set_option maxHeartbeats 4000000 in
set_option maxRecDepth 100000 in
theorem kind_any {v : Value} {T : List (List UInt8)} {w : World} (s : ByteArray) (h : Row1 w v (T.map Str)) (hn : 0 < T.length) (hn2 : T.length ≤ 1000) :
    Calls Tryd.prog 21 #[v, .string s] w fun e w' => e = .returned (.int .i64 (kindL T s.data.toList)) ∧ w = w' := by
  obtain ⟨b, o, cap, hv, hcap, hmax, hb, hc⟩ := h.addr (by simpa using hn)
  rw [List.length_map] at hv hcap
  subst hv
  clear h
  generalize hN : T.length = n at *
  have HN := Lib.hid hN
  have HC := Lib.hid hc
  clear hN hc
  go_enter Tryd.func21, Tryd.ntmps21
  go_wp2_with fail
  go_loopw [9] (fun iv wr => ∃ k : Nat, k ≤ n ∧ iv = .int .i64 (k : Int) ∧ Hid (kindL T s.data.toList = kindFrom s.data.toList k (T.drop k)) ∧ wr = w) (fun iv _ => n - (intOf iv).toNat)
  case atStart => exact ⟨0, Nat.zero_le _, rfl, by unfold Hid; rfl, rfl⟩
  case round =>
    obtain ⟨k, hk, rfl, HS, rfl⟩ := hrel
    by_cases hlt : k < n
    · have hx : T[k]? = some (T[k]'(by rw [HN.out]; exact hlt)) := List.getElem?_eq_getElem _
      have hd := List.drop_eq_getElem_cons (l := T) (i := k) (by rw [HN.out]; exact hlt)
      have hcell : wr.cell? ⟨b, o + k, none⟩ = some (Str (T[k]'(by rw [HN.out]; exact hlt))) := HC.out k _ (by rw [List.getElem?_map, hx]; rfl)
      generalize T[k]'(by rw [HN.out]; exact hlt) = x at *
      have hst := Lib.hid (show kindL T s.data.toList = if x ≠ [] ∧ x = s.data.toList then k else kindFrom s.data.toList (k + 1) (T.drop (k + 1)) by rw [HS.out, hd]; rfl)
      unfold Str at hcell
      obtain ⟨xb, hxb⟩ : ∃ xb : ByteArray, xb = ⟨x.toArray⟩ := ⟨_, rfl⟩
      have hxd : xb.data.toList = x := by rw [hxb]
      rw [← hxb] at hcell
      clear hxb hx hd HS
      have q1 : (k : Int) < (n : Int) := by omega
      by_cases x0 : x = []
      · have e0 : xb.toList.isEmpty = true := isEmpty_true (by rw [hxd]; exact x0)
        have hst2 := Lib.hid (show kindL T s.data.toList = kindFrom s.data.toList (k + 1) (T.drop (k + 1)) by rw [hst.out, if_neg]; exact fun h => h.1 x0)
        clear hst x0 hxd
        go_wp2_with fail
        go_roundw
        case rel => exact ⟨k + 1, by omega, by simp, hst2, by first | rfl | trivial⟩
        case measure => simp [intOf]; omega
      · have e0 : xb.toList.isEmpty = false := isEmpty_false (by rw [hxd]; exact x0)
        by_cases x1 : x = s.data.toList
        · have e1 : (xb.toList == s.toList) = true := by rw [ByteArray.toList_eq, ByteArray.toList_eq, hxd, x1]; simp
          have hst2 := Lib.hid (show kindL T s.data.toList = k by rw [hst.out, if_pos ⟨x0, x1⟩])
          clear hst x0 x1 hxd
          go_wp2_with fail
          go_ret
          exact ⟨by rw [hst2.out]; rfl, rfl⟩
        · have e1 : (xb.toList == s.toList) = false := by rw [ByteArray.toList_eq, ByteArray.toList_eq, hxd]; simpa using x1
          have hst2 := Lib.hid (show kindL T s.data.toList = kindFrom s.data.toList (k + 1) (T.drop (k + 1)) by rw [hst.out, if_neg]; exact fun h => x1 h.2)
          clear hst x0 x1 hxd
          go_wp2_with fail
          go_roundw
          case rel => exact ⟨k + 1, by omega, by simp, hst2, by first | rfl | trivial⟩
          case measure => simp [intOf]; omega
    · obtain rfl : k = n := by omega
      have hst2 := Lib.hid (show kindL T s.data.toList = 0 by rw [HS.out, List.drop_of_length_le (by rw [HN.out]; exact Nat.le_refl _)]; rfl)
      clear HS
      go_wp2_with fail
      go_ret
      exact ⟨by rw [hst2.out]; rfl, rfl⟩
end Go.Proofs.YtcocmljollnpdaaDoor
