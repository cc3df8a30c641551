/- script: a law's line. -/
import Derived.Test.YtcocmljollnpdaaDoorSc10
import Derived.Test.YtcocmljollnpdaaDoorSc3
import Derived.Deep.RegionWith
import Derived.Deep.Cut
import Derived.Lib.ItoaLen
namespace Go.Proofs.YtcocmljollnpdaaDoor
open Go Go.RowKit Go.Dm
set_option linter.unusedVariables false
set_option linter.unusedSimpArgs false

theorem blk_two {w : World} {a b : Obj} : ((w.alloc a).alloc b).heap[w.heap.size + 1]? = some b := by
  have := blk_alloc_new (w := w.alloc a) (o := b)
  rwa [show (w.alloc a).heap.size = w.heap.size + 1 from Array.size_push _] at this
theorem tup_eq {b : ByteArray} {l : List UInt8} (h : b.data.toList = l) : Ending.returned (.tuple #[.string b, .bool true]) = Ending.returned (.tuple #[Str l, .bool true]) := by
  unfold Str
  rw [show b = ⟨l.toArray⟩ from ba_ext h]
theorem hexL_le (l : List UInt8) (h : l.length ≤ 1073741824) : (hexL l).length ≤ 2147483650 := by
  unfold hexL
  split
  · decide
  · rw [flat_len]; omega
theorem size_ne {s : ByteArray} {k : Nat} (h : s.size = k) (h0 : ¬ k = 0) : s.data.toList ≠ [] := fun e => h0 (by
  have h1 : s.size = s.data.toList.length := by simp
  rw [← h, h1, e]; rfl)
theorem str_eq {b : ByteArray} {l : List UInt8} (h : b.data.toList = l) : Value.string b = Str l := by
  unfold Str
  exact congrArg Value.string (ba_ext h)
theorem itoa_le {n : Int} (h : I64 n) : (Lib.itoa n).length ≤ 21 := Lib.itoa_length_le n h.1 h.2
set_option maxHeartbeats 4000000 in
set_option maxRecDepth 100000 in
theorem n_any {n : Int} (h : I64 n) {w : World} (hE : Env w) :
    Calls Tryd.prog 25 #[.int .i64 n] w fun e w' => e = .returned (Str (32 :: Lib.itoa n)) ∧ Only (fun _ => False) w w' := by
  have hz := itoa_le h
  go_enter Tryd.func25, Tryd.ntmps25
  go_wp2_with fail
  refine (itoa_any h hE).mono ?_
  rintro e w' ⟨rfl, ho⟩
  unfold Str
  go_wp2_with fail
  go_ret
  exact ⟨congrArg Ending.returned (str_eq (by simp)), ho⟩

/-- What a line hands back. -/
def LineR (s : Stp) (w : World) (e : Ending) (w' : World) : Prop :=
  Only (fun _ => False) w w' ∧ ((∃ t, lineL s = some t ∧ e = .returned (.tuple #[Str t, .bool true])) ∨ (lineL s = none ∧ e = .returned (.tuple #[Str [], .bool false])))
set_option maxHeartbeats 8000000 in
set_option maxRecDepth 100000 in
theorem lline_any {s : Stp} {v : Value} {w : World} (hf : Fit s) (hr : Row1 w v (bools s.keep)) (hk : s.keep.length ≤ 1073741824) (h1 : s.key.length ≤ 1073741824) (h2 : s.val.length ≤ 1073741824) (hE : Env w) :
    Calls Tryd.prog 11 #[.agg (s.cells v).toArray] w (LineR s w) := by
  obtain ⟨kind, node, sess, req, ck, key, val, at_, n, keep, tear⟩ := s
  obtain ⟨f1, f2, f3, f4, f5, f6, f7, f8⟩ := hf
  simp only at f1 f2 f3 f4 f5 f6 f7 f8 hk h1 h2 hr
  have z2 := itoa_le f2
  have z3 := itoa_le f3
  have z4 := itoa_le f4
  have z6 := itoa_le f6
  have z7 := itoa_le f7
  have z8 := itoa_le f8
  have F1 := Lib.hid f1
  have F2 := Lib.hid f2
  have F3 := Lib.hid f3
  have F4 := Lib.hid f4
  have F5 := Lib.hid f5
  have F6 := Lib.hid f6
  have F7 := Lib.hid f7
  have F8 := Lib.hid f8
  have HR := Lib.hid hr
  have HE := Lib.hid hE
  have B0 := hE.big
  clear f1 f2 f3 f4 f5 f6 f7 f8 hr hE
  unfold Stp.cells Str
  go_enter Tryd.func11, Tryd.ntmps11
  go_upto_region 3 with fail
  have ho1 : Only (fun _ => False) w ((w.alloc (Obj.cells #[Value.int IntKind.i64 kind, Value.int IntKind.i64 node, Value.int IntKind.i64 sess, Value.int IntKind.i64 req, Value.int IntKind.i64 ck, Value.string { data := key.toArray }, Value.string { data := val.toArray }, Value.int IntKind.i64 at_, Value.int IntKind.i64 n, v, Value.int IntKind.i64 tear] 27)).alloc (Obj.cells #[Value.string { data := #[] }, Value.string { data := #[98, 101, 103, 105, 110] }, Value.string { data := #[103, 101, 116] }, Value.string { data := #[112, 117, 116] }, Value.string { data := #[100, 114, 111, 112] }, Value.string { data := #[99, 111, 109, 109, 105, 116] }, Value.string { data := #[97, 98, 111, 114, 116] }] 9)) := ((Only.refl _ _).alloc _).alloc _
  have kS : ((w.alloc (Obj.cells #[Value.int IntKind.i64 kind, Value.int IntKind.i64 node, Value.int IntKind.i64 sess, Value.int IntKind.i64 req, Value.int IntKind.i64 ck, Value.string { data := key.toArray }, Value.string { data := val.toArray }, Value.int IntKind.i64 at_, Value.int IntKind.i64 n, v, Value.int IntKind.i64 tear] 27)).alloc (Obj.cells #[Value.string { data := #[] }, Value.string { data := #[98, 101, 103, 105, 110] }, Value.string { data := #[103, 101, 116] }, Value.string { data := #[112, 117, 116] }, Value.string { data := #[100, 114, 111, 112] }, Value.string { data := #[99, 111, 109, 109, 105, 116] }, Value.string { data := #[97, 98, 111, 114, 116] }] 9)).heap[w.heap.size]? = some (.cells #[Value.int IntKind.i64 kind, Value.int IntKind.i64 node, Value.int IntKind.i64 sess, Value.int IntKind.i64 req, Value.int IntKind.i64 ck, Value.string { data := key.toArray }, Value.string { data := val.toArray }, Value.int IntKind.i64 at_, Value.int IntKind.i64 n, v, Value.int IntKind.i64 tear] 27 (0, 0)) := blk_alloc_old blk_alloc_new
  have kW : ((w.alloc (Obj.cells #[Value.int IntKind.i64 kind, Value.int IntKind.i64 node, Value.int IntKind.i64 sess, Value.int IntKind.i64 req, Value.int IntKind.i64 ck, Value.string { data := key.toArray }, Value.string { data := val.toArray }, Value.int IntKind.i64 at_, Value.int IntKind.i64 n, v, Value.int IntKind.i64 tear] 27)).alloc (Obj.cells #[Value.string { data := #[] }, Value.string { data := #[98, 101, 103, 105, 110] }, Value.string { data := #[103, 101, 116] }, Value.string { data := #[112, 117, 116] }, Value.string { data := #[100, 114, 111, 112] }, Value.string { data := #[99, 111, 109, 109, 105, 116] }, Value.string { data := #[97, 98, 111, 114, 116] }] 9)).heap[w.heap.size + 1]? = some (.cells #[Value.string { data := #[] }, Value.string { data := #[98, 101, 103, 105, 110] }, Value.string { data := #[103, 101, 116] }, Value.string { data := #[112, 117, 116] }, Value.string { data := #[100, 114, 111, 112] }, Value.string { data := #[99, 111, 109, 109, 105, 116] }, Value.string { data := #[97, 98, 111, 114, 116] }] 9 (0, 0)) := blk_two
  generalize ((w.alloc (Obj.cells #[Value.int IntKind.i64 kind, Value.int IntKind.i64 node, Value.int IntKind.i64 sess, Value.int IntKind.i64 req, Value.int IntKind.i64 ck, Value.string { data := key.toArray }, Value.string { data := val.toArray }, Value.int IntKind.i64 at_, Value.int IntKind.i64 n, v, Value.int IntKind.i64 tear] 27)).alloc (Obj.cells #[Value.string { data := #[] }, Value.string { data := #[98, 101, 103, 105, 110] }, Value.string { data := #[103, 101, 116] }, Value.string { data := #[112, 117, 116] }, Value.string { data := #[100, 114, 111, 112] }, Value.string { data := #[99, 111, 109, 109, 105, 116] }, Value.string { data := #[97, 98, 111, 114, 116] }] 9)) = w1 at *
  generalize w.heap.size = B at *
  have HE1 := Lib.hid (HE.out.new ho1)
  have HR1 := Lib.hid (HR.out.new ho1)
  have HO := Lib.hid ho1
  have cK := cell_of_blk kS 0
  simp only [List.getElem?_toArray, List.getElem?_cons_zero, List.getElem?_cons_succ] at cK
  have KS := Lib.hid kS
  have KW := Lib.hid kW
  clear ho1 kS kW
  by_cases k2 : kind = 2
  · subst k2
    have c7 := cell_of_blk KS.out 7
    simp only [List.getElem?_toArray, List.getElem?_cons_zero, List.getElem?_cons_succ] at c7
    as_aux_lemma =>
      go_wp2_with fail
      refine (n_any F6.out HE1.out).mono ?_
      rintro e w2 ⟨rfl, ho2⟩
      unfold Str
      go_wp2_with fail
      go_ret2
      exact ⟨HO.out.trans' ho2, .inl ⟨jn 32 [stepsT.getD 2 [], Lib.itoa at_], rfl, tup_eq (by rw [jn_cons, jn_one]; rfl)⟩⟩
  by_cases k3 : kind = 3
  · subst k3
    have c7 := cell_of_blk KS.out 7
    simp only [List.getElem?_toArray, List.getElem?_cons_zero, List.getElem?_cons_succ] at c7
    as_aux_lemma =>
      go_wp2_with fail
      refine (n_any F6.out HE1.out).mono ?_
      rintro e w2 ⟨rfl, ho2⟩
      unfold Str
      go_wp2_with fail
      go_ret2
      exact ⟨HO.out.trans' ho2, .inl ⟨jn 32 [stepsT.getD 3 [], Lib.itoa at_], rfl, tup_eq (by rw [jn_cons, jn_one]; rfl)⟩⟩
  by_cases k4 : kind = 4
  · subst k4
    have c7 := cell_of_blk KS.out 7
    simp only [List.getElem?_toArray, List.getElem?_cons_zero, List.getElem?_cons_succ] at c7
    as_aux_lemma =>
      go_wp2_with fail
      refine (n_any F6.out HE1.out).mono ?_
      rintro e w2 ⟨rfl, ho2⟩
      unfold Str
      go_wp2_with fail
      go_ret2
      exact ⟨HO.out.trans' ho2, .inl ⟨jn 32 [stepsT.getD 4 [], Lib.itoa at_], rfl, tup_eq (by rw [jn_cons, jn_one]; rfl)⟩⟩
  by_cases k5 : kind = 5
  · subst k5
    have c7 := cell_of_blk KS.out 7
    simp only [List.getElem?_toArray, List.getElem?_cons_zero, List.getElem?_cons_succ] at c7
    as_aux_lemma =>
      go_wp2_with fail
      refine (n_any F6.out HE1.out).mono ?_
      rintro e w2 ⟨rfl, ho2⟩
      unfold Str
      go_wp2_with fail
      go_ret2
      exact ⟨HO.out.trans' ho2, .inl ⟨jn 32 [stepsT.getD 5 [], Lib.itoa at_], rfl, tup_eq (by rw [jn_cons, jn_one]; rfl)⟩⟩
  by_cases k6 : kind = 6
  · subst k6
    have c1 := cell_of_blk KS.out 1
    simp only [List.getElem?_toArray, List.getElem?_cons_zero, List.getElem?_cons_succ] at c1
    as_aux_lemma =>
      go_wp2_with fail
      refine (n_any F2.out HE1.out).mono ?_
      rintro e w2 ⟨rfl, ho2⟩
      unfold Str
      go_wp2_with fail
      go_ret2
      exact ⟨HO.out.trans' ho2, .inl ⟨jn 32 [stepsT.getD 6 [], Lib.itoa node], rfl, tup_eq (by rw [jn_cons, jn_one]; rfl)⟩⟩
  by_cases k8 : kind = 8
  · subst k8
    have c1 := cell_of_blk KS.out 1
    simp only [List.getElem?_toArray, List.getElem?_cons_zero, List.getElem?_cons_succ] at c1
    as_aux_lemma =>
      go_wp2_with fail
      refine (n_any F2.out HE1.out).mono ?_
      rintro e w2 ⟨rfl, ho2⟩
      unfold Str
      go_wp2_with fail
      go_ret2
      exact ⟨HO.out.trans' ho2, .inl ⟨jn 32 [stepsT.getD 8 [], Lib.itoa node], rfl, tup_eq (by rw [jn_cons, jn_one]; rfl)⟩⟩
  by_cases k7 : kind = 7
  · subst k7
    have c1 := cell_of_blk KS.out 1
    have c8 := cell_of_blk KS.out 8
    simp only [List.getElem?_toArray, List.getElem?_cons_zero, List.getElem?_cons_succ] at c1 c8
    as_aux_lemma =>
      have l8 := later_cell (S := fun _ => False) c8 id
      have l1 := later_cell (S := fun _ => False) c1 id
      go_wp2_with fail
      refine wp_region_segL [1,1,1,2,0,0,0,1,2,2,2,2] (fun _ => False) (by kernel_rfl) (by kernel_rfl) ?_
      refine seg_reads 3 (by decide) (by decide) ?_
      simp only [List.take_succ_cons, List.take_zero, List.drop_succ_cons, List.drop_zero]
      iterate 3 (go_big_quiet_step (fail))
      refine wpQuiet_nil ?_
      refine seg_eff rfl ?_
      go_wp2_with fail
      refine (n_any F2.out (HE1.out.new (Only.refl _ _).drew)).mono ?_
      rintro e w2 ⟨rfl, ho2'⟩
      have ho2 : Only (fun _ => False) w1 w2 := (Only.refl _ _).drew.trans' ho2'
      unfold Str
      go_wp2_with fail
      refine strict_intro ⟨⟨⟨w2, ho2⟩, rfl⟩, ?_⟩
      refine seg_free rfl ?_
      go_big_quiet_step (fail)
      refine wpQuiet_nil ?_
      refine seg_free rfl ?_
      go_big_quiet_step (fail)
      refine wpQuiet_nil ?_
      refine seg_free rfl ?_
      go_big_quiet_step (fail)
      refine wpQuiet_nil ?_
      refine seg_reads 1 (by decide) (by decide) ?_
      simp only [List.take_succ_cons, List.take_zero, List.drop_succ_cons, List.drop_zero]
      iterate 1 (go_big_quiet_step (fail))
      refine wpQuiet_nil ?_
      refine seg_list' _ _ _ _ (by kernel_rfl) ?_
      have HE2 := Lib.hid (HE1.out.new ho2)
      go_wp2_with fail
      refine (n_any F7.out HE2.out).mono ?_
      rintro e w3 ⟨rfl, ho3⟩
      unfold Str
      go_wp2_with fail
      refine strict_then ?_
      go_wp2_with fail
      go_ret2
      exact ⟨(HO.out.trans' ho2).trans' ho3, .inl ⟨jn 32 [stepsT.getD 7 [], Lib.itoa node, Lib.itoa n], rfl, tup_eq (by rw [jn_cons, jn_cons, jn_one]; simp; rfl)⟩⟩
  by_cases k1 : kind = 1
  · subst k1
    have c1 := cell_of_blk KS.out 1
    have c2 := cell_of_blk KS.out 2
    have c3 := cell_of_blk KS.out 3
    have c4 := cell_of_blk KS.out 4
    have c5 := cell_of_blk KS.out 5
    have c6 := cell_of_blk KS.out 6
    simp only [List.getElem?_toArray, List.getElem?_cons_zero, List.getElem?_cons_succ] at c1 c2 c3 c4 c5 c6
    by_cases hc : 1 ≤ ck ∧ ck ≤ 6
    · obtain ⟨m, rfl⟩ : ∃ m : Nat, ck = (m : Int) := ⟨ck.toNat, by omega⟩
      obtain ⟨hc1, hc2⟩ := hc
      have cw : w1.cell? ⟨B + 1, m, none⟩ = some (.string ⟨(callsT.getD m []).toArray⟩) := by
        rw [cell_of_blk KW.out m]
        obtain rfl | rfl | rfl | rfl | rfl | rfl : m = 1 ∨ m = 2 ∨ m = 3 ∨ m = 4 ∨ m = 5 ∨ m = 6 := by omega
        all_goals rfl
      have hlw : (callsT.getD m []).length ≤ 6 := by
        obtain rfl | rfl | rfl | rfl | rfl | rfl : m = 1 ∨ m = 2 ∨ m = 3 ∨ m = 4 ∨ m = 5 ∨ m = 6 := by omega
        all_goals decide
      have hline := Lib.hid (show lineL ⟨1, node, sess, req, (m : Int), key, val, at_, n, keep, tear⟩ = some (jn 32 [stepsT.getD 1 [], Lib.itoa node, Lib.itoa sess, Lib.itoa req, callsT.getD m [], hexL key, hexL val]) by
        unfold lineL lineW
        simp only
        rw [if_pos trivial, if_pos ⟨hc1, hc2⟩]; rfl)
      generalize callsT.getD m [] = cwd at *
      have hm0 : (0 : Int) ≤ (m : Int) := by omega
      have hm7 : (m : Int) < 7 := by omega
      have g1 : decide ((m : Int) < 1) = false := decide_eq_false (by omega)
      have g2 : decide ((m : Int) > 6) = false := decide_eq_false (by omega)
      have g3 : decide (6 < (m : Int)) = false := decide_eq_false (by omega)
      clear hc1 hc2
      have zk := hexL_le key h1
      have zv := hexL_le val h2
      as_aux_lemma =>
        have l1 := later_cell (S := fun _ => False) c1 id
        have l2 := later_cell (S := fun _ => False) c2 id
        have l3 := later_cell (S := fun _ => False) c3 id
        have l4 := later_cell (S := fun _ => False) c4 id
        have l5 := later_cell (S := fun _ => False) c5 id
        have l6 := later_cell (S := fun _ => False) c6 id
        have lw := later_cell (S := fun _ => False) cw id
        go_wp2_with fail
        refine wp_region_segL [1,1,1,2,0,0,0,0,1,2,0,0,0,0,1,2,0,0,0,0,0,1,0,1,0,0,0,0,1,2,0,0,0,0,1,2,2,2,2] (fun _ => False) (by kernel_rfl) (by kernel_rfl) ?_
        refine seg_reads 3 (by decide) (by decide) ?_
        simp only [List.take_succ_cons, List.take_zero, List.drop_succ_cons, List.drop_zero]
        iterate 3 (go_big_quiet_step (fail))
        refine wpQuiet_nil ?_
        refine seg_eff rfl ?_
        go_wp2_with fail
        refine (n_any F2.out (HE1.out.new (Only.refl _ _).drew)).mono ?_
        rintro e w2 ⟨rfl, ho2'⟩
        have ho2 : Only (fun _ => False) w1 w2 := (Only.refl _ _).drew.trans' ho2'
        clear ho2'
        unfold Str
        go_wp2_with fail
        refine strict_intro ⟨⟨⟨w2, ho2⟩, rfl⟩, ?_⟩
        refine seg_free rfl ?_
        go_big_quiet_step (fail)
        refine wpQuiet_nil ?_
        refine seg_free rfl ?_
        go_big_quiet_step (fail)
        refine wpQuiet_nil ?_
        refine seg_free rfl ?_
        go_big_quiet_step (fail)
        refine wpQuiet_nil ?_
        refine seg_free rfl ?_
        go_big_quiet_step (fail)
        refine wpQuiet_nil ?_
        refine seg_reads 1 (by decide) (by decide) ?_
        simp only [List.take_succ_cons, List.take_zero, List.drop_succ_cons, List.drop_zero]
        iterate 1 (go_big_quiet_step (fail))
        refine wpQuiet_nil ?_
        refine seg_eff rfl ?_
        go_wp2_with fail
        refine (n_any F3.out (HE1.out.new ho2)).mono ?_
        rintro e w3 ⟨rfl, ho3'⟩
        have ho3 : Only (fun _ => False) w1 w3 := ho2.trans' ho3'
        clear ho3' ho2
        unfold Str
        go_wp2_with fail
        refine strict_intro ⟨⟨⟨w3, ho3⟩, rfl⟩, ?_⟩
        refine seg_free rfl ?_
        go_big_quiet_step (fail)
        refine wpQuiet_nil ?_
        refine seg_free rfl ?_
        go_big_quiet_step (fail)
        refine wpQuiet_nil ?_
        refine seg_free rfl ?_
        go_big_quiet_step (fail)
        refine wpQuiet_nil ?_
        refine seg_free rfl ?_
        go_big_quiet_step (fail)
        refine wpQuiet_nil ?_
        refine seg_reads 1 (by decide) (by decide) ?_
        simp only [List.take_succ_cons, List.take_zero, List.drop_succ_cons, List.drop_zero]
        iterate 1 (go_big_quiet_step (fail))
        refine wpQuiet_nil ?_
        refine seg_eff rfl ?_
        go_wp2_with fail
        refine (n_any F4.out (HE1.out.new ho3)).mono ?_
        rintro e w4 ⟨rfl, ho4'⟩
        have ho4 : Only (fun _ => False) w1 w4 := ho3.trans' ho4'
        clear ho4' ho3
        unfold Str
        go_wp2_with fail
        refine strict_intro ⟨⟨⟨w4, ho4⟩, rfl⟩, ?_⟩
        refine seg_free rfl ?_
        go_big_quiet_step (fail)
        refine wpQuiet_nil ?_
        refine seg_free rfl ?_
        go_big_quiet_step (fail)
        refine wpQuiet_nil ?_
        refine seg_free rfl ?_
        go_big_quiet_step (fail)
        refine wpQuiet_nil ?_
        refine seg_free rfl ?_
        go_big_quiet_step (fail)
        refine wpQuiet_nil ?_
        refine seg_free rfl ?_
        go_big_quiet_step (fail)
        refine wpQuiet_nil ?_
        refine seg_reads 1 (by decide) (by decide) ?_
        simp only [List.take_succ_cons, List.take_zero, List.drop_succ_cons, List.drop_zero]
        iterate 1 (go_big_quiet_step (fail))
        refine wpQuiet_nil ?_
        refine seg_free rfl ?_
        go_big_quiet_step (fail)
        refine wpQuiet_nil ?_
        refine seg_reads 1 (by decide) (by decide) ?_
        simp only [List.take_succ_cons, List.take_zero, List.drop_succ_cons, List.drop_zero]
        iterate 1 (go_big_quiet_step (fail))
        refine wpQuiet_nil ?_
        refine seg_free rfl ?_
        go_big_quiet_step (fail)
        refine wpQuiet_nil ?_
        refine seg_free rfl ?_
        go_big_quiet_step (fail)
        refine wpQuiet_nil ?_
        refine seg_free rfl ?_
        go_big_quiet_step (fail)
        refine wpQuiet_nil ?_
        refine seg_free rfl ?_
        go_big_quiet_step (fail)
        refine wpQuiet_nil ?_
        refine seg_reads 1 (by decide) (by decide) ?_
        simp only [List.take_succ_cons, List.take_zero, List.drop_succ_cons, List.drop_zero]
        iterate 1 (go_big_quiet_step (fail))
        refine wpQuiet_nil ?_
        refine seg_eff rfl ?_
        go_wp2_with fail
        refine (lhex_any ⟨key.toArray⟩ (show key.toArray.size ≤ _ by rw [List.size_toArray]; exact h1)).mono ?_
        rintro e w5 ⟨rfl, ho5'⟩
        have ho5 : Only (fun _ => False) w1 w5 := ho4.trans' ho5'
        clear ho5' ho4
        unfold Str
        go_wp2_with fail
        refine strict_intro ⟨⟨⟨w5, ho5⟩, rfl⟩, ?_⟩
        refine seg_free rfl ?_
        go_big_quiet_step (fail)
        refine wpQuiet_nil ?_
        refine seg_free rfl ?_
        go_big_quiet_step (fail)
        refine wpQuiet_nil ?_
        refine seg_free rfl ?_
        go_big_quiet_step (fail)
        refine wpQuiet_nil ?_
        refine seg_free rfl ?_
        go_big_quiet_step (fail)
        refine wpQuiet_nil ?_
        refine seg_reads 1 (by decide) (by decide) ?_
        simp only [List.take_succ_cons, List.take_zero, List.drop_succ_cons, List.drop_zero]
        iterate 1 (go_big_quiet_step (fail))
        refine wpQuiet_nil ?_
        refine seg_eff rfl ?_
        go_wp2_with fail
        refine (lhex_any ⟨val.toArray⟩ (show val.toArray.size ≤ _ by rw [List.size_toArray]; exact h2)).mono ?_
        rintro e w6 ⟨rfl, ho6'⟩
        have ho6 : Only (fun _ => False) w1 w6 := ho5.trans' ho6'
        clear ho6' ho5
        unfold Str
        go_wp2_with fail
        refine strict_intro ⟨⟨⟨w6, ho6⟩, rfl⟩, ?_⟩
        refine seg_list' _ _ _ _ (by kernel_rfl) ?_
        go_wp2_with fail
        refine strict_then ?_
        go_wp2_with fail
        go_ret2
        exact ⟨HO.out.trans' ho6, .inl ⟨_, hline.out, tup_eq (by simp [jn_cons, jn_one]; rfl)⟩⟩
    · have hline := Lib.hid (show lineL ⟨1, node, sess, req, ck, key, val, at_, n, keep, tear⟩ = none by
        unfold lineL lineW
        simp only
        rw [if_pos trivial, if_neg hc]; rfl)
      have hO := HO.out
      by_cases hlt : ck < 1
      · have g1 : decide (ck < 1) = true := decide_eq_true hlt
        clear hc
        as_aux_lemma =>
          go_wp2_with fail
          go_ret2
          exact ⟨hO, .inr ⟨hline.out, rfl⟩⟩
      · have g1 : decide (ck < 1) = false := decide_eq_false hlt
        have g2 : decide (ck > 6) = true := decide_eq_true (by omega)
        have g3 : decide (6 < ck) = true := g2
        clear hc
        as_aux_lemma =>
          go_wp2_with fail
          go_ret2
          exact ⟨hO, .inr ⟨hline.out, rfl⟩⟩
  by_cases k9 : kind = 9
  · subst k9
    have c1 := cell_of_blk KS.out 1
    have c8 := cell_of_blk KS.out 8
    have c9 := cell_of_blk KS.out 9
    have c10 := cell_of_blk KS.out 10
    simp only [List.getElem?_toArray, List.getElem?_cons_zero, List.getElem?_cons_succ] at c1 c8 c9 c10
    obtain ⟨a, cap, rfl, hcap, hmax, hcells⟩ := HR1.out
    have hlm : (bools keep).length = keep.length := by unfold bools; rw [List.length_map]
    have hline := Lib.hid (show lineL ⟨9, node, sess, req, ck, key, val, at_, n, keep, tear⟩ = some (jn 32 [stepsT.getD 9 [], Lib.itoa node, Lib.itoa n, Lib.itoa tear, bitsL keep]) from rfl)
    rw [hlm] at hcells hcap c9
    generalize hN : keep.length = N at *
    have HN := Lib.hid hN
    have HC := Lib.hid hcells
    clear hN hcells hlm hcap hmax HR HR1
    as_aux_lemma =>
      have l1 := later_cell (S := fun _ => False) c1 id
      have l8 := later_cell (S := fun _ => False) c8 id
      have l10 := later_cell (S := fun _ => False) c10 id
      go_wp2_with fail
      go_loopw [6, 120] (fun ov iv wr => ∃ (k : Nat) (acc : ByteArray), k ≤ N ∧ iv = .int .i64 (k : Int) ∧ ov = .string acc ∧ Hid (acc.data.toList = (keep.take k).map bitC) ∧ wr = w1) (fun _ iv _ => N - (intOf iv).toNat)
      case atStart => exact ⟨0, _, Nat.zero_le _, rfl, rfl, by unfold Hid; rfl, rfl⟩
      case round =>
        obtain ⟨k, acc, hk, rfl, rfl, HA, rfl⟩ := hrel
        by_cases hlt : k < N
        · have hx : keep[k]? = some (keep[k]'(by rw [HN.out]; exact hlt)) := List.getElem?_eq_getElem _
          have HT := Lib.hid (show keep.take (k + 1) = keep.take k ++ [keep[k]'(by rw [HN.out]; exact hlt)] from List.take_succ_eq_append_getElem _)
          obtain ⟨b, o, rfl, hb, hcc⟩ := HC.out (by omega)
          have hcell := hcc k (.bool (keep[k]'(by rw [HN.out]; exact hlt))) (by unfold bools; rw [List.getElem?_map, hx]; rfl)
          generalize keep[k]'(by rw [HN.out]; exact hlt) = x at *
          have hsz : acc.size ≤ N := by
            have h1 : acc.size = acc.data.toList.length := by simp
            rw [h1, HA.out, List.length_map, List.length_take, HN.out]; omega
          clear hx hcc
          cases x
          · go_wp2_with fail
            go_roundw
            case rel => exact ⟨k + 1, _, by omega, by simp, rfl, by unfold Hid; rw [HT.out, List.map_append, ← HA.out]; simp [bitC], by first | rfl | trivial⟩
            case measure => simp [intOf]; omega
          · go_wp2_with fail
            go_roundw
            case rel => exact ⟨k + 1, _, by omega, by simp, rfl, by unfold Hid; rw [HT.out, List.map_append, ← HA.out]; simp [bitC], by first | rfl | trivial⟩
            case measure => simp [intOf]; omega
        · obtain rfl : k = N := by omega
          have hacc : acc.data.toList = keep.map bitC := by rw [HA.out, ← HN.out, List.take_length]
          have hal : acc.size = k := by
            have h1 : acc.size = acc.data.toList.length := by simp
            rw [h1, hacc, List.length_map, HN.out]
          have HACC := Lib.hid hacc
          clear hacc HA HC
          by_cases h0 : k = 0
          · subst h0
            obtain rfl : acc = ⟨#[]⟩ := ba_ext (show acc.data.toList = [] from List.eq_nil_of_length_eq_zero (by rw [← hal]; simp))
            have hb := Lib.hid (show bitsL keep = [45] by unfold bitsL; rw [if_pos (List.eq_nil_of_length_eq_zero HN.out)])
            as_aux_lemma =>
              go_wp2_with fail
              refine wp_region_segL [1,1,1,2,0,0,0,1,2,0,0,0,1,2,2,2,0,2,2,2] (fun _ => False) (by kernel_rfl) (by kernel_rfl) ?_
              refine seg_reads 3 (by decide) (by decide) ?_
              simp only [List.take_succ_cons, List.take_zero, List.drop_succ_cons, List.drop_zero]
              iterate 3 (go_big_quiet_step (fail))
              refine wpQuiet_nil ?_
              refine seg_eff rfl ?_
              go_wp2_with fail
              refine (n_any F2.out (HE1.out.new (Only.refl _ _).drew)).mono ?_
              rintro e w2 ⟨rfl, ho2'⟩
              have ho2 : Only (fun _ => False) wr w2 := (Only.refl _ _).drew.trans' ho2'
              clear ho2'
              unfold Str
              go_wp2_with fail
              refine strict_intro ⟨⟨⟨w2, ho2⟩, rfl⟩, ?_⟩
              refine seg_free rfl ?_
              go_big_quiet_step (fail)
              refine wpQuiet_nil ?_
              refine seg_free rfl ?_
              go_big_quiet_step (fail)
              refine wpQuiet_nil ?_
              refine seg_free rfl ?_
              go_big_quiet_step (fail)
              refine wpQuiet_nil ?_
              refine seg_reads 1 (by decide) (by decide) ?_
              simp only [List.take_succ_cons, List.take_zero, List.drop_succ_cons, List.drop_zero]
              iterate 1 (go_big_quiet_step (fail))
              refine wpQuiet_nil ?_
              refine seg_eff rfl ?_
              go_wp2_with fail
              refine (n_any F7.out (HE1.out.new ho2)).mono ?_
              rintro e w3 ⟨rfl, ho3'⟩
              have ho3 : Only (fun _ => False) wr w3 := ho2.trans' ho3'
              clear ho3' ho2
              unfold Str
              go_wp2_with fail
              refine strict_intro ⟨⟨⟨w3, ho3⟩, rfl⟩, ?_⟩
              refine seg_free rfl ?_
              go_big_quiet_step (fail)
              refine wpQuiet_nil ?_
              refine seg_free rfl ?_
              go_big_quiet_step (fail)
              refine wpQuiet_nil ?_
              refine seg_free rfl ?_
              go_big_quiet_step (fail)
              refine wpQuiet_nil ?_
              refine seg_reads 1 (by decide) (by decide) ?_
              simp only [List.take_succ_cons, List.take_zero, List.drop_succ_cons, List.drop_zero]
              iterate 1 (go_big_quiet_step (fail))
              refine wpQuiet_nil ?_
              refine seg_step (by kernel_rfl) ?_
              go_wp2_with fail
              refine (n_any F8.out (HE1.out.new ho3)).mono ?_
              rintro e w4 ⟨rfl, ho4'⟩
              have ho4 : Only (fun _ => False) wr w4 := ho3.trans' ho4'
              clear ho4' ho3
              unfold Str
              go_wp2_with fail
              refine strict_intro ?_
              refine seg_step (by kernel_rfl) ?_
              go_wp2_with fail
              refine strict_intro ?_
              refine seg_step (by kernel_rfl) ?_
              go_wp2_with fail
              refine strict_intro ?_
              refine seg_free rfl ?_
              go_big_quiet_step (fail)
              refine wpQuiet_nil ?_
              refine seg_list' _ _ _ _ (by kernel_rfl) ?_
              go_wp2_with fail
              refine strict_then ?_
              go_wp2_with fail
              go_ret2
              exact ⟨HO.out.trans' ho4, .inl ⟨_, hline.out, tup_eq (by rw [hb.out]; simp [jn_cons, jn_one]; try rfl)⟩⟩
          · have hb := Lib.hid (show bitsL keep = acc.data.toList by rw [HACC.out]; unfold bitsL; rw [if_neg (fun e => h0 (by rw [← HN.out, e]; rfl))])
            have he := isEmpty_false (s := acc) (size_ne hal h0)
            as_aux_lemma =>
              go_wp2_with fail
              refine wp_region_segL [1,1,1,2,0,0,0,1,2,0,0,0,1,2,2,2,0,2,2,2] (fun _ => False) (by kernel_rfl) (by kernel_rfl) ?_
              refine seg_reads 3 (by decide) (by decide) ?_
              simp only [List.take_succ_cons, List.take_zero, List.drop_succ_cons, List.drop_zero]
              iterate 3 (go_big_quiet_step (fail))
              refine wpQuiet_nil ?_
              refine seg_eff rfl ?_
              go_wp2_with fail
              refine (n_any F2.out (HE1.out.new (Only.refl _ _).drew)).mono ?_
              rintro e w2 ⟨rfl, ho2'⟩
              have ho2 : Only (fun _ => False) wr w2 := (Only.refl _ _).drew.trans' ho2'
              clear ho2'
              unfold Str
              go_wp2_with fail
              refine strict_intro ⟨⟨⟨w2, ho2⟩, rfl⟩, ?_⟩
              refine seg_free rfl ?_
              go_big_quiet_step (fail)
              refine wpQuiet_nil ?_
              refine seg_free rfl ?_
              go_big_quiet_step (fail)
              refine wpQuiet_nil ?_
              refine seg_free rfl ?_
              go_big_quiet_step (fail)
              refine wpQuiet_nil ?_
              refine seg_reads 1 (by decide) (by decide) ?_
              simp only [List.take_succ_cons, List.take_zero, List.drop_succ_cons, List.drop_zero]
              iterate 1 (go_big_quiet_step (fail))
              refine wpQuiet_nil ?_
              refine seg_eff rfl ?_
              go_wp2_with fail
              refine (n_any F7.out (HE1.out.new ho2)).mono ?_
              rintro e w3 ⟨rfl, ho3'⟩
              have ho3 : Only (fun _ => False) wr w3 := ho2.trans' ho3'
              clear ho3' ho2
              unfold Str
              go_wp2_with fail
              refine strict_intro ⟨⟨⟨w3, ho3⟩, rfl⟩, ?_⟩
              refine seg_free rfl ?_
              go_big_quiet_step (fail)
              refine wpQuiet_nil ?_
              refine seg_free rfl ?_
              go_big_quiet_step (fail)
              refine wpQuiet_nil ?_
              refine seg_free rfl ?_
              go_big_quiet_step (fail)
              refine wpQuiet_nil ?_
              refine seg_reads 1 (by decide) (by decide) ?_
              simp only [List.take_succ_cons, List.take_zero, List.drop_succ_cons, List.drop_zero]
              iterate 1 (go_big_quiet_step (fail))
              refine wpQuiet_nil ?_
              refine seg_step (by kernel_rfl) ?_
              go_wp2_with fail
              refine (n_any F8.out (HE1.out.new ho3)).mono ?_
              rintro e w4 ⟨rfl, ho4'⟩
              have ho4 : Only (fun _ => False) wr w4 := ho3.trans' ho4'
              clear ho4' ho3
              unfold Str
              go_wp2_with fail
              refine strict_intro ?_
              refine seg_step (by kernel_rfl) ?_
              go_wp2_with fail
              refine strict_intro ?_
              refine seg_step (by kernel_rfl) ?_
              go_wp2_with fail
              refine strict_intro ?_
              refine seg_free rfl ?_
              go_big_quiet_step (fail)
              refine wpQuiet_nil ?_
              refine seg_list' _ _ _ _ (by kernel_rfl) ?_
              go_wp2_with fail
              refine strict_then ?_
              go_wp2_with fail
              go_ret2
              exact ⟨HO.out.trans' ho4, .inl ⟨_, hline.out, tup_eq (by rw [hb.out]; simp [jn_cons, jn_one]; try rfl)⟩⟩
  have hline := Lib.hid (show lineL ⟨kind, node, sess, req, ck, key, val, at_, n, keep, tear⟩ = none by
    unfold lineL lineW
    simp only
    rw [if_neg k1, if_neg k9, if_neg k7, if_neg (by omega), if_neg (by omega)]; rfl)
  have hO := HO.out
  have g1 : (kind == 1) = false := by simpa using k1
  have g2 : (kind == 2) = false := by simpa using k2
  have g3 : (kind == 3) = false := by simpa using k3
  have g4 : (kind == 4) = false := by simpa using k4
  have g5 : (kind == 5) = false := by simpa using k5
  have g6 : (kind == 6) = false := by simpa using k6
  have g7 : (kind == 7) = false := by simpa using k7
  have g8 : (kind == 8) = false := by simpa using k8
  have g9 : (kind == 9) = false := by simpa using k9
  clear k1 k2 k3 k4 k5 k6 k7 k8 k9
  as_aux_lemma =>
    go_wp2_with fail
    go_ret2
    exact ⟨hO, .inr ⟨hline.out, rfl⟩⟩
end Go.Proofs.YtcocmljollnpdaaDoor
