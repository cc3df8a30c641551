/- script: script.Line. -/
import Derived.Test.YtcocmljollnpdaaDoorSc10
import Derived.Test.YtcocmljollnpdaaDoorSc3
import Derived.Test.YtcocmljollnpdaaDoorSc4
import Derived.Test.YtcocmljollnpdaaDoorSc11
import Derived.Deep.RegionWith
import Derived.Deep.Cut
import Derived.Lib.ItoaLen
namespace Go.Proofs.YtcocmljollnpdaaDoor
open Go Go.RowKit Go.Dm
set_option linter.unusedVariables false
set_option linter.unusedSimpArgs false

theorem join_new {xs : List ByteArray} {w : World} (h0 : 0 < xs.length) (hN : xs.length ≤ 100) (hlen : (jn 32 (lists xs)).length ≤ 140737488355328) :
    Calls Tryd.prog 30 #[.slice (some ⟨w.heap.size, 0, none⟩) xs.length xs.length, .string ⟨#[32]⟩] (w.alloc (.cells (xs.map Value.string).toArray 9)) fun e w' => e = .returned (Str (jn 32 (lists xs))) ∧ Only (fun _ => False) w w' := by
  refine (Tryd.strings_Join w.heap.size 0 xs.length xs ⟨#[32]⟩ (w.alloc (.cells (xs.map Value.string).toArray 9)) (fun j x hx => ?_) (blk_lt blk_alloc_new) (by omega) (Nat.le_refl _) hlen).mono ?_
  · rw [Nat.zero_add, cell_of_blk blk_alloc_new j]
    simp [hx]
  · rintro e w' ⟨rfl, hb⟩
    exact ⟨rfl, ((Only.refl _ _).alloc _).trans' (Only.of_below hb)⟩
set_option maxHeartbeats 1000000 in
set_option maxRecDepth 100000 in
theorem bs7 {w : World} (x0 x1 x2 x3 x4 x5 x6 : ByteArray) : (Instr.buildSlice 45 7 #[(0, .string x0), (1, .string x1), (2, .string x2), (3, .string x3), (4, .string x4), (5, .string x5), (6, .string x6)]).run Tryd.prog w = .ok (.slice (some ⟨w.heap.size, 0, none⟩) 7 7) (w.alloc (.cells #[.string x0, .string x1, .string x2, .string x3, .string x4, .string x5, .string x6] 9)) := by
  simp [go_sem]
set_option maxHeartbeats 1000000 in
set_option maxRecDepth 100000 in
theorem bs5 {w : World} (x0 x1 x2 x3 x4 : ByteArray) : (Instr.buildSlice 45 5 #[(0, .string x0), (1, .string x1), (2, .string x2), (3, .string x3), (4, .string x4)]).run Tryd.prog w = .ok (.slice (some ⟨w.heap.size, 0, none⟩) 5 5) (w.alloc (.cells #[.string x0, .string x1, .string x2, .string x3, .string x4] 9)) := by
  simp [go_sem]
theorem wpl_buildSlice {P : Program} {ops : Array Oper} {Q : Exit → Act → World → Prop} {rest : List Oper} {o : Oper} {a : Act} {w w' : World} (hg : o.guard = none) (d : Tmp) (hd : o.dst = some d) {t : TypeId} {n : Nat} {parts : Array (Nat × Operand)} (hop : o.op = .buildSlice t n parts)
    {vals : Array (Nat × Value)} (hv : parts.map (fun (i, x) => (i, a.eval x)) = vals) {V : Value} (hrun : (Instr.buildSlice t n vals).run P w = .ok V w')
    (hK : wpList P ops Q rest (a.put d V) w') : wpList P ops Q (o :: rest) a w := by
  refine wpList_plain hg fun K' hK' => ?_
  unfold Oper.wp execOp
  simp only [hop, hv, bind, Sem.run_bind', hrun, Result.andThen_ok, pure, Sem.run]
  simp only [Oper.upon, hd]
  exact hK' _ _ hK
theorem str_var (l : List UInt8) : ∃ b : ByteArray, b.data.toList = l ∧ Str l = .string b := ⟨⟨l.toArray⟩, rfl, rfl⟩
theorem bitsL_le (l : List Bool) (h : l.length ≤ 1073741824) : (bitsL l).length ≤ 1073741825 := by
  unfold bitsL
  split
  · decide
  · rw [List.length_map]; omega

set_option maxHeartbeats 8000000 in
set_option maxRecDepth 100000 in
theorem sline_any {s : Stp} {v : Value} {w : World} (hf : Fit s) (hr : Row1 w v (bools s.keep)) (hk : s.keep.length ≤ 1073741824) (h1 : s.key.length ≤ 1073741824) (h2 : s.val.length ≤ 1073741824) (hE : Env w) :
    Calls Tryd.prog 19 #[.agg (s.cells v).toArray] w (LineR s w) := by
  obtain ⟨kind, node, sess, req, ck, key, val, at_, n, keep, tear⟩ := s
  obtain ⟨f1, f2, f3, f4, f5, f6, f7, f8⟩ := hf
  simp only at f1 f2 f3 f4 f5 f6 f7 f8 hk h1 h2 hr
  have z2 := itoa_le f2
  have z3 := itoa_le f3
  have z4 := itoa_le f4
  have z6 := itoa_le f6
  have z7 := itoa_le f7
  have z8 := itoa_le f8
  have F1 := Lib.hid f1
  have F2 := Lib.hid f2
  have F3 := Lib.hid f3
  have F4 := Lib.hid f4
  have F5 := Lib.hid f5
  have F6 := Lib.hid f6
  have F7 := Lib.hid f7
  have F8 := Lib.hid f8
  have HR := Lib.hid hr
  have HE := Lib.hid hE
  have B0 := hE.big
  clear f1 f2 f3 f4 f5 f6 f7 f8 hr hE
  unfold Stp.cells Str
  go_enter Tryd.func19, Tryd.ntmps19
  go_upto_region 2 with fail
  have ho1 : Only (fun _ => False) w (w.alloc (Obj.cells #[(.int .i64 kind : Value), .int .i64 node, .int .i64 sess, .int .i64 req, .int .i64 ck, .string ⟨key.toArray⟩, .string ⟨val.toArray⟩, .int .i64 at_, .int .i64 n, v, .int .i64 tear] 27)) := (Only.refl _ _).alloc _
  have kS : (w.alloc (Obj.cells #[(.int .i64 kind : Value), .int .i64 node, .int .i64 sess, .int .i64 req, .int .i64 ck, .string ⟨key.toArray⟩, .string ⟨val.toArray⟩, .int .i64 at_, .int .i64 n, v, .int .i64 tear] 27)).heap[w.heap.size]? = some (.cells #[(.int .i64 kind : Value), .int .i64 node, .int .i64 sess, .int .i64 req, .int .i64 ck, .string ⟨key.toArray⟩, .string ⟨val.toArray⟩, .int .i64 at_, .int .i64 n, v, .int .i64 tear] 27 (0, 0)) := blk_alloc_new
  generalize (w.alloc (Obj.cells #[(.int .i64 kind : Value), .int .i64 node, .int .i64 sess, .int .i64 req, .int .i64 ck, .string ⟨key.toArray⟩, .string ⟨val.toArray⟩, .int .i64 at_, .int .i64 n, v, .int .i64 tear] 27)) = w1 at *
  generalize w.heap.size = B at *
  have HE1 := Lib.hid (HE.out.new ho1)
  have HR1 := Lib.hid (HR.out.new ho1)
  have HO := Lib.hid ho1
  have cK := cell_of_blk kS 0
  simp only [List.getElem?_toArray, List.getElem?_cons_zero, List.getElem?_cons_succ] at cK
  have KS := Lib.hid kS
  clear ho1 kS
  by_cases k2 : kind = 2
  · subst k2
    have c0 := cell_of_blk KS.out 0
    have c7 := cell_of_blk KS.out 7
    simp only [List.getElem?_toArray, List.getElem?_cons_zero, List.getElem?_cons_succ] at c0 c7
    as_aux_lemma =>
      have l0 := later_cell (S := fun _ => False) c0 id
      have l7 := later_cell (S := fun _ => False) c7 id
      have lw := later_cell (S := fun _ => False) (HE1.out.steps 2 _ rfl) id
      unfold Str at lw
      go_wp2_with fail
      refine wp_region_segL [0,1,0,1,0,1,1,1,2,2,2,2] (fun _ => False) (by kernel_rfl) (by kernel_rfl) ?_
      refine seg_free rfl ?_
      go_big_quiet_step (fail)
      refine wpQuiet_nil ?_
      refine seg_reads 1 (by decide) (by decide) ?_
      simp only [List.take_succ_cons, List.take_zero, List.drop_succ_cons, List.drop_zero]
      iterate 1 (go_big_quiet_step (fail))
      refine wpQuiet_nil ?_
      refine seg_free rfl ?_
      go_big_quiet_step (fail)
      refine wpQuiet_nil ?_
      refine seg_reads 1 (by decide) (by decide) ?_
      simp only [List.take_succ_cons, List.take_zero, List.drop_succ_cons, List.drop_zero]
      iterate 1 (go_big_quiet_step (fail))
      refine wpQuiet_nil ?_
      refine seg_free rfl ?_
      go_big_quiet_step (fail)
      refine wpQuiet_nil ?_
      refine seg_reads 3 (by decide) (by decide) ?_
      simp only [List.take_succ_cons, List.take_zero, List.drop_succ_cons, List.drop_zero]
      iterate 3 (go_big_quiet_step (fail))
      refine wpQuiet_nil ?_
      refine seg_eff rfl ?_
      go_wp2_with fail
      refine (itoa_any F6.out (HE1.out.new (Only.refl _ _).drew)).mono ?_
      rintro e w2 ⟨rfl, ho2'⟩
      have ho2 : Only (fun _ => False) w1 w2 := (Only.refl _ _).drew.trans' ho2'
      clear ho2'
      unfold Str
      go_wp2_with fail
      refine strict_intro ⟨⟨⟨w2, ho2⟩, rfl⟩, ?_⟩
      refine seg_list' _ _ _ _ (by kernel_rfl) ?_
      go_wp2_with fail
      refine strict_then ?_
      go_wp2_with fail
      go_ret2
      exact ⟨HO.out.trans' ho2, .inl ⟨jn 32 [stepsT.getD 2 [], Lib.itoa at_], rfl, tup_eq (by rw [jn_cons, jn_one]; simp; rfl)⟩⟩
  by_cases k3 : kind = 3
  · subst k3
    have c0 := cell_of_blk KS.out 0
    have c7 := cell_of_blk KS.out 7
    simp only [List.getElem?_toArray, List.getElem?_cons_zero, List.getElem?_cons_succ] at c0 c7
    as_aux_lemma =>
      have l0 := later_cell (S := fun _ => False) c0 id
      have l7 := later_cell (S := fun _ => False) c7 id
      have lw := later_cell (S := fun _ => False) (HE1.out.steps 3 _ rfl) id
      unfold Str at lw
      go_wp2_with fail
      refine wp_region_segL [0,1,0,1,0,1,1,1,2,2,2,2] (fun _ => False) (by kernel_rfl) (by kernel_rfl) ?_
      refine seg_free rfl ?_
      go_big_quiet_step (fail)
      refine wpQuiet_nil ?_
      refine seg_reads 1 (by decide) (by decide) ?_
      simp only [List.take_succ_cons, List.take_zero, List.drop_succ_cons, List.drop_zero]
      iterate 1 (go_big_quiet_step (fail))
      refine wpQuiet_nil ?_
      refine seg_free rfl ?_
      go_big_quiet_step (fail)
      refine wpQuiet_nil ?_
      refine seg_reads 1 (by decide) (by decide) ?_
      simp only [List.take_succ_cons, List.take_zero, List.drop_succ_cons, List.drop_zero]
      iterate 1 (go_big_quiet_step (fail))
      refine wpQuiet_nil ?_
      refine seg_free rfl ?_
      go_big_quiet_step (fail)
      refine wpQuiet_nil ?_
      refine seg_reads 3 (by decide) (by decide) ?_
      simp only [List.take_succ_cons, List.take_zero, List.drop_succ_cons, List.drop_zero]
      iterate 3 (go_big_quiet_step (fail))
      refine wpQuiet_nil ?_
      refine seg_eff rfl ?_
      go_wp2_with fail
      refine (itoa_any F6.out (HE1.out.new (Only.refl _ _).drew)).mono ?_
      rintro e w2 ⟨rfl, ho2'⟩
      have ho2 : Only (fun _ => False) w1 w2 := (Only.refl _ _).drew.trans' ho2'
      clear ho2'
      unfold Str
      go_wp2_with fail
      refine strict_intro ⟨⟨⟨w2, ho2⟩, rfl⟩, ?_⟩
      refine seg_list' _ _ _ _ (by kernel_rfl) ?_
      go_wp2_with fail
      refine strict_then ?_
      go_wp2_with fail
      go_ret2
      exact ⟨HO.out.trans' ho2, .inl ⟨jn 32 [stepsT.getD 3 [], Lib.itoa at_], rfl, tup_eq (by rw [jn_cons, jn_one]; simp; rfl)⟩⟩
  by_cases k4 : kind = 4
  · subst k4
    have c0 := cell_of_blk KS.out 0
    have c7 := cell_of_blk KS.out 7
    simp only [List.getElem?_toArray, List.getElem?_cons_zero, List.getElem?_cons_succ] at c0 c7
    as_aux_lemma =>
      have l0 := later_cell (S := fun _ => False) c0 id
      have l7 := later_cell (S := fun _ => False) c7 id
      have lw := later_cell (S := fun _ => False) (HE1.out.steps 4 _ rfl) id
      unfold Str at lw
      go_wp2_with fail
      refine wp_region_segL [0,1,0,1,0,1,1,1,2,2,2,2] (fun _ => False) (by kernel_rfl) (by kernel_rfl) ?_
      refine seg_free rfl ?_
      go_big_quiet_step (fail)
      refine wpQuiet_nil ?_
      refine seg_reads 1 (by decide) (by decide) ?_
      simp only [List.take_succ_cons, List.take_zero, List.drop_succ_cons, List.drop_zero]
      iterate 1 (go_big_quiet_step (fail))
      refine wpQuiet_nil ?_
      refine seg_free rfl ?_
      go_big_quiet_step (fail)
      refine wpQuiet_nil ?_
      refine seg_reads 1 (by decide) (by decide) ?_
      simp only [List.take_succ_cons, List.take_zero, List.drop_succ_cons, List.drop_zero]
      iterate 1 (go_big_quiet_step (fail))
      refine wpQuiet_nil ?_
      refine seg_free rfl ?_
      go_big_quiet_step (fail)
      refine wpQuiet_nil ?_
      refine seg_reads 3 (by decide) (by decide) ?_
      simp only [List.take_succ_cons, List.take_zero, List.drop_succ_cons, List.drop_zero]
      iterate 3 (go_big_quiet_step (fail))
      refine wpQuiet_nil ?_
      refine seg_eff rfl ?_
      go_wp2_with fail
      refine (itoa_any F6.out (HE1.out.new (Only.refl _ _).drew)).mono ?_
      rintro e w2 ⟨rfl, ho2'⟩
      have ho2 : Only (fun _ => False) w1 w2 := (Only.refl _ _).drew.trans' ho2'
      clear ho2'
      unfold Str
      go_wp2_with fail
      refine strict_intro ⟨⟨⟨w2, ho2⟩, rfl⟩, ?_⟩
      refine seg_list' _ _ _ _ (by kernel_rfl) ?_
      go_wp2_with fail
      refine strict_then ?_
      go_wp2_with fail
      go_ret2
      exact ⟨HO.out.trans' ho2, .inl ⟨jn 32 [stepsT.getD 4 [], Lib.itoa at_], rfl, tup_eq (by rw [jn_cons, jn_one]; simp; rfl)⟩⟩
  by_cases k5 : kind = 5
  · subst k5
    have c0 := cell_of_blk KS.out 0
    have c7 := cell_of_blk KS.out 7
    simp only [List.getElem?_toArray, List.getElem?_cons_zero, List.getElem?_cons_succ] at c0 c7
    as_aux_lemma =>
      have l0 := later_cell (S := fun _ => False) c0 id
      have l7 := later_cell (S := fun _ => False) c7 id
      have lw := later_cell (S := fun _ => False) (HE1.out.steps 5 _ rfl) id
      unfold Str at lw
      go_wp2_with fail
      refine wp_region_segL [0,1,0,1,0,1,1,1,2,2,2,2] (fun _ => False) (by kernel_rfl) (by kernel_rfl) ?_
      refine seg_free rfl ?_
      go_big_quiet_step (fail)
      refine wpQuiet_nil ?_
      refine seg_reads 1 (by decide) (by decide) ?_
      simp only [List.take_succ_cons, List.take_zero, List.drop_succ_cons, List.drop_zero]
      iterate 1 (go_big_quiet_step (fail))
      refine wpQuiet_nil ?_
      refine seg_free rfl ?_
      go_big_quiet_step (fail)
      refine wpQuiet_nil ?_
      refine seg_reads 1 (by decide) (by decide) ?_
      simp only [List.take_succ_cons, List.take_zero, List.drop_succ_cons, List.drop_zero]
      iterate 1 (go_big_quiet_step (fail))
      refine wpQuiet_nil ?_
      refine seg_free rfl ?_
      go_big_quiet_step (fail)
      refine wpQuiet_nil ?_
      refine seg_reads 3 (by decide) (by decide) ?_
      simp only [List.take_succ_cons, List.take_zero, List.drop_succ_cons, List.drop_zero]
      iterate 3 (go_big_quiet_step (fail))
      refine wpQuiet_nil ?_
      refine seg_eff rfl ?_
      go_wp2_with fail
      refine (itoa_any F6.out (HE1.out.new (Only.refl _ _).drew)).mono ?_
      rintro e w2 ⟨rfl, ho2'⟩
      have ho2 : Only (fun _ => False) w1 w2 := (Only.refl _ _).drew.trans' ho2'
      clear ho2'
      unfold Str
      go_wp2_with fail
      refine strict_intro ⟨⟨⟨w2, ho2⟩, rfl⟩, ?_⟩
      refine seg_list' _ _ _ _ (by kernel_rfl) ?_
      go_wp2_with fail
      refine strict_then ?_
      go_wp2_with fail
      go_ret2
      exact ⟨HO.out.trans' ho2, .inl ⟨jn 32 [stepsT.getD 5 [], Lib.itoa at_], rfl, tup_eq (by rw [jn_cons, jn_one]; simp; rfl)⟩⟩
  by_cases k6 : kind = 6
  · subst k6
    have c0 := cell_of_blk KS.out 0
    have c1 := cell_of_blk KS.out 1
    simp only [List.getElem?_toArray, List.getElem?_cons_zero, List.getElem?_cons_succ] at c0 c1
    as_aux_lemma =>
      have l0 := later_cell (S := fun _ => False) c0 id
      have l1 := later_cell (S := fun _ => False) c1 id
      have lw := later_cell (S := fun _ => False) (HE1.out.steps 6 _ rfl) id
      unfold Str at lw
      go_wp2_with fail
      refine wp_region_segL [0,1,0,1,0,1,1,1,2,2,2,2] (fun _ => False) (by kernel_rfl) (by kernel_rfl) ?_
      refine seg_free rfl ?_
      go_big_quiet_step (fail)
      refine wpQuiet_nil ?_
      refine seg_reads 1 (by decide) (by decide) ?_
      simp only [List.take_succ_cons, List.take_zero, List.drop_succ_cons, List.drop_zero]
      iterate 1 (go_big_quiet_step (fail))
      refine wpQuiet_nil ?_
      refine seg_free rfl ?_
      go_big_quiet_step (fail)
      refine wpQuiet_nil ?_
      refine seg_reads 1 (by decide) (by decide) ?_
      simp only [List.take_succ_cons, List.take_zero, List.drop_succ_cons, List.drop_zero]
      iterate 1 (go_big_quiet_step (fail))
      refine wpQuiet_nil ?_
      refine seg_free rfl ?_
      go_big_quiet_step (fail)
      refine wpQuiet_nil ?_
      refine seg_reads 3 (by decide) (by decide) ?_
      simp only [List.take_succ_cons, List.take_zero, List.drop_succ_cons, List.drop_zero]
      iterate 3 (go_big_quiet_step (fail))
      refine wpQuiet_nil ?_
      refine seg_eff rfl ?_
      go_wp2_with fail
      refine (itoa_any F2.out (HE1.out.new (Only.refl _ _).drew)).mono ?_
      rintro e w2 ⟨rfl, ho2'⟩
      have ho2 : Only (fun _ => False) w1 w2 := (Only.refl _ _).drew.trans' ho2'
      clear ho2'
      unfold Str
      go_wp2_with fail
      refine strict_intro ⟨⟨⟨w2, ho2⟩, rfl⟩, ?_⟩
      refine seg_list' _ _ _ _ (by kernel_rfl) ?_
      go_wp2_with fail
      refine strict_then ?_
      go_wp2_with fail
      go_ret2
      exact ⟨HO.out.trans' ho2, .inl ⟨jn 32 [stepsT.getD 6 [], Lib.itoa node], rfl, tup_eq (by rw [jn_cons, jn_one]; simp; rfl)⟩⟩
  by_cases k8 : kind = 8
  · subst k8
    have c0 := cell_of_blk KS.out 0
    have c1 := cell_of_blk KS.out 1
    simp only [List.getElem?_toArray, List.getElem?_cons_zero, List.getElem?_cons_succ] at c0 c1
    as_aux_lemma =>
      have l0 := later_cell (S := fun _ => False) c0 id
      have l1 := later_cell (S := fun _ => False) c1 id
      have lw := later_cell (S := fun _ => False) (HE1.out.steps 8 _ rfl) id
      unfold Str at lw
      go_wp2_with fail
      refine wp_region_segL [0,1,0,1,0,1,1,1,2,2,2,2] (fun _ => False) (by kernel_rfl) (by kernel_rfl) ?_
      refine seg_free rfl ?_
      go_big_quiet_step (fail)
      refine wpQuiet_nil ?_
      refine seg_reads 1 (by decide) (by decide) ?_
      simp only [List.take_succ_cons, List.take_zero, List.drop_succ_cons, List.drop_zero]
      iterate 1 (go_big_quiet_step (fail))
      refine wpQuiet_nil ?_
      refine seg_free rfl ?_
      go_big_quiet_step (fail)
      refine wpQuiet_nil ?_
      refine seg_reads 1 (by decide) (by decide) ?_
      simp only [List.take_succ_cons, List.take_zero, List.drop_succ_cons, List.drop_zero]
      iterate 1 (go_big_quiet_step (fail))
      refine wpQuiet_nil ?_
      refine seg_free rfl ?_
      go_big_quiet_step (fail)
      refine wpQuiet_nil ?_
      refine seg_reads 3 (by decide) (by decide) ?_
      simp only [List.take_succ_cons, List.take_zero, List.drop_succ_cons, List.drop_zero]
      iterate 3 (go_big_quiet_step (fail))
      refine wpQuiet_nil ?_
      refine seg_eff rfl ?_
      go_wp2_with fail
      refine (itoa_any F2.out (HE1.out.new (Only.refl _ _).drew)).mono ?_
      rintro e w2 ⟨rfl, ho2'⟩
      have ho2 : Only (fun _ => False) w1 w2 := (Only.refl _ _).drew.trans' ho2'
      clear ho2'
      unfold Str
      go_wp2_with fail
      refine strict_intro ⟨⟨⟨w2, ho2⟩, rfl⟩, ?_⟩
      refine seg_list' _ _ _ _ (by kernel_rfl) ?_
      go_wp2_with fail
      refine strict_then ?_
      go_wp2_with fail
      go_ret2
      exact ⟨HO.out.trans' ho2, .inl ⟨jn 32 [stepsT.getD 8 [], Lib.itoa node], rfl, tup_eq (by rw [jn_cons, jn_one]; simp; rfl)⟩⟩
  by_cases k7 : kind = 7
  · subst k7
    have c1 := cell_of_blk KS.out 1
    have c8 := cell_of_blk KS.out 8
    simp only [List.getElem?_toArray, List.getElem?_cons_zero, List.getElem?_cons_succ] at c1 c8
    as_aux_lemma =>
      have l8 := later_cell (S := fun _ => False) c8 id
      have l1 := later_cell (S := fun _ => False) c1 id
      go_wp2_with fail
      refine wp_region_segL [1,1,1,2,0,0,0,0,1,2,2,2,2] (fun _ => False) (by kernel_rfl) (by kernel_rfl) ?_
      refine seg_reads 3 (by decide) (by decide) ?_
      simp only [List.take_succ_cons, List.take_zero, List.drop_succ_cons, List.drop_zero]
      iterate 3 (go_big_quiet_step (fail))
      refine wpQuiet_nil ?_
      refine seg_eff rfl ?_
      go_wp2_with fail
      refine (itoa_any F2.out (HE1.out.new (Only.refl _ _).drew)).mono ?_
      rintro e w2 ⟨rfl, ho2'⟩
      have ho2 : Only (fun _ => False) w1 w2 := (Only.refl _ _).drew.trans' ho2'
      clear ho2'
      unfold Str
      go_wp2_with fail
      refine strict_intro ⟨⟨⟨w2, ho2⟩, rfl⟩, ?_⟩
      refine seg_free rfl ?_
      go_big_quiet_step (fail)
      refine wpQuiet_nil ?_
      refine seg_free rfl ?_
      go_big_quiet_step (fail)
      refine wpQuiet_nil ?_
      refine seg_free rfl ?_
      go_big_quiet_step (fail)
      refine wpQuiet_nil ?_
      refine seg_free rfl ?_
      go_big_quiet_step (fail)
      refine wpQuiet_nil ?_
      refine seg_reads 1 (by decide) (by decide) ?_
      simp only [List.take_succ_cons, List.take_zero, List.drop_succ_cons, List.drop_zero]
      iterate 1 (go_big_quiet_step (fail))
      refine wpQuiet_nil ?_
      refine seg_list' _ _ _ _ (by kernel_rfl) ?_
      go_wp2_with fail
      refine (itoa_any F7.out (HE1.out.new ho2)).mono ?_
      rintro e w3 ⟨rfl, ho3'⟩
      have ho3 : Only (fun _ => False) w1 w3 := ho2.trans' ho3'
      clear ho2
      clear ho3'
      unfold Str
      go_wp2_with fail
      refine strict_then ?_
      go_wp2_with fail
      go_ret2
      exact ⟨HO.out.trans' ho3, .inl ⟨jn 32 [stepsT.getD 7 [], Lib.itoa node, Lib.itoa n], rfl, tup_eq (by rw [jn_cons, jn_cons, jn_one]; simp; rfl)⟩⟩
  by_cases k1 : kind = 1
  · subst k1
    have c1 := cell_of_blk KS.out 1
    have c2 := cell_of_blk KS.out 2
    have c3 := cell_of_blk KS.out 3
    have c4 := cell_of_blk KS.out 4
    have c5 := cell_of_blk KS.out 5
    have c6 := cell_of_blk KS.out 6
    simp only [List.getElem?_toArray, List.getElem?_cons_zero, List.getElem?_cons_succ] at c1 c2 c3 c4 c5 c6
    by_cases hc : 1 ≤ ck ∧ ck ≤ 6
    · obtain ⟨m, rfl⟩ : ∃ m : Nat, ck = (m : Int) := ⟨ck.toNat, by omega⟩
      obtain ⟨hc1, hc2⟩ := hc
      have hlw : (callsT.getD m []).length ≤ 6 := by
        obtain rfl | rfl | rfl | rfl | rfl | rfl : m = 1 ∨ m = 2 ∨ m = 3 ∨ m = 4 ∨ m = 5 ∨ m = 6 := by omega
        all_goals decide
      have hw0 : callsT[m]? = some (callsT.getD m []) := by
        obtain rfl | rfl | rfl | rfl | rfl | rfl : m = 1 ∨ m = 2 ∨ m = 3 ∨ m = 4 ∨ m = 5 ∨ m = 6 := by omega
        all_goals rfl
      have hline := Lib.hid (show lineL ⟨1, node, sess, req, (m : Int), key, val, at_, n, keep, tear⟩ = some (jn 32 [stepsT.getD 1 [], Lib.itoa node, Lib.itoa sess, Lib.itoa req, callsT.getD m [], hexL key, hexL val]) by
        unfold lineL lineW
        simp only
        rw [if_pos trivial, if_pos ⟨hc1, hc2⟩]; rfl)
      have cw := HE1.out.calls m _ hw0
      have zk := hexL_le key h1
      have zv := hexL_le val h2
      have hlen := Lib.hid (show (jn 32 [stepsT.getD 1 [], Lib.itoa node, Lib.itoa sess, Lib.itoa req, callsT.getD m [], hexL key, hexL val]).length ≤ 5000000000 by
        have e0 : (stepsT.getD 1 []).length = 4 := rfl
        simp only [jn_cons, jn_one, List.length_append, List.length_cons]
        omega)
      generalize callsT.getD m [] = cwd at *
      have hm0 : (0 : Int) ≤ (m : Int) := by omega
      have hm7 : (m : Int) < 7 := by omega
      have g1 : decide ((m : Int) < 1) = false := decide_eq_false (by omega)
      have g2 : decide ((m : Int) > 6) = false := decide_eq_false (by omega)
      have g3 : decide (6 < (m : Int)) = false := decide_eq_false (by omega)
      have HW0 := Lib.hid hw0
      clear hc1 hc2 hw0
      obtain ⟨cwb, hcwb⟩ := str_var cwd
      have Hcwb := Lib.hid hcwb
      rw [hcwb.2] at cw
      clear hcwb
      as_aux_lemma =>
        go_upto_region 7 with fail
        have k24 : (w1.alloc (Obj.cells #[(.int .i64 sess : Value), .int .i64 req, .int .i64 (m : Int), .string ⟨key.toArray⟩, .string ⟨val.toArray⟩] 24)).heap[w1.heap.size]? = _ := blk_alloc_new
        have cw2 : (w1.alloc (Obj.cells #[(.int .i64 sess : Value), .int .i64 req, .int .i64 (m : Int), .string ⟨key.toArray⟩, .string ⟨val.toArray⟩] 24)).cell? ⟨1, m, none⟩ = _ := (World.cell?_of_block (w := w1) (((Only.refl (fun _ => False) w1).alloc _).block 1 (by have := HE1.out.big; omega) id)).trans cw
        have d1 : (w1.alloc (Obj.cells #[(.int .i64 sess : Value), .int .i64 req, .int .i64 (m : Int), .string ⟨key.toArray⟩, .string ⟨val.toArray⟩] 24)).cell? ⟨B, 1, none⟩ = _ := (World.cell?_of_block (w := w1) (((Only.refl (fun _ => False) w1).alloc _).block B (blk_lt KS.out) id)).trans c1
        have hoA : Only (fun _ => False) w1 (w1.alloc (Obj.cells #[(.int .i64 sess : Value), .int .i64 req, .int .i64 (m : Int), .string ⟨key.toArray⟩, .string ⟨val.toArray⟩] 24)) := (Only.refl _ _).alloc _
        have HE2 := Lib.hid (HE1.out.new hoA)
        have HOA := Lib.hid hoA
        clear hoA cw c1 c2 c3 c4 c5 c6 cK
        generalize (w1.alloc (Obj.cells #[(.int .i64 sess : Value), .int .i64 req, .int .i64 (m : Int), .string ⟨key.toArray⟩, .string ⟨val.toArray⟩] 24)) = w2 at *
        generalize w1.heap.size = D at *
        have m0 := cell_of_blk k24 0
        have m1 := cell_of_blk k24 1
        have m2 := cell_of_blk k24 2
        have m3 := cell_of_blk k24 3
        have m4 := cell_of_blk k24 4
        simp only [List.getElem?_toArray, List.getElem?_cons_zero, List.getElem?_cons_succ] at m0 m1 m2 m3 m4
        have n0 := later_cell (S := fun _ => False) m0 id
        have n1 := later_cell (S := fun _ => False) m1 id
        have n2 := later_cell (S := fun _ => False) m2 id
        have n3 := later_cell (S := fun _ => False) m3 id
        have n4 := later_cell (S := fun _ => False) m4 id
        have l1 := later_cell (S := fun _ => False) d1 id
        have lw := later_cell (S := fun _ => False) cw2 id
        clear k24
        refine wp_region_segL [1,1,1,2,0,0,1,2,0,0,1,2,0,1,0,1,0,1,2,0,1,2,2,2,2,2] (fun _ => False) (by kernel_rfl) (by kernel_rfl) ?_
        refine seg_reads 3 (by decide) (by decide) ?_
        simp only [List.take_succ_cons, List.take_zero, List.drop_succ_cons, List.drop_zero]
        iterate 3 (go_big_quiet_step (fail))
        refine wpQuiet_nil ?_
        refine seg_eff rfl ?_
        go_wp2_with fail
        refine (itoa_any F2.out (HE2.out.new (Only.refl _ _).drew)).mono ?_
        rintro e w3 ⟨rfl, ho3'⟩
        have ho3 : Only (fun _ => False) w2 w3 := (Only.refl _ _).drew.trans' ho3'
        clear ho3'
        obtain ⟨x3, hx3⟩ := str_var (Lib.itoa node)
        have Hx3 := Lib.hid hx3
        first | rw [hx3.2] | rw [show Str (hexL (ByteArray.mk _).data.toList) = _ from hx3.2]
        clear hx3
        go_wp2_with fail
        refine strict_intro ⟨⟨⟨w3, ho3⟩, rfl⟩, ?_⟩
        refine seg_free rfl ?_
        go_big_quiet_step (fail)
        refine wpQuiet_nil ?_
        refine seg_free rfl ?_
        go_big_quiet_step (fail)
        refine wpQuiet_nil ?_
        refine seg_reads 1 (by decide) (by decide) ?_
        simp only [List.take_succ_cons, List.take_zero, List.drop_succ_cons, List.drop_zero]
        iterate 1 (go_big_quiet_step (fail))
        refine wpQuiet_nil ?_
        refine seg_eff rfl ?_
        go_wp2_with fail
        refine (itoa_any F3.out (HE2.out.new ho3)).mono ?_
        rintro e w4 ⟨rfl, ho4'⟩
        have ho4 : Only (fun _ => False) w2 w4 := ho3.trans' ho4'
        clear ho3
        clear ho4'
        obtain ⟨x4, hx4⟩ := str_var (Lib.itoa sess)
        have Hx4 := Lib.hid hx4
        first | rw [hx4.2] | rw [show Str (hexL (ByteArray.mk _).data.toList) = _ from hx4.2]
        clear hx4
        go_wp2_with fail
        refine strict_intro ⟨⟨⟨w4, ho4⟩, rfl⟩, ?_⟩
        refine seg_free rfl ?_
        go_big_quiet_step (fail)
        refine wpQuiet_nil ?_
        refine seg_free rfl ?_
        go_big_quiet_step (fail)
        refine wpQuiet_nil ?_
        refine seg_reads 1 (by decide) (by decide) ?_
        simp only [List.take_succ_cons, List.take_zero, List.drop_succ_cons, List.drop_zero]
        iterate 1 (go_big_quiet_step (fail))
        refine wpQuiet_nil ?_
        refine seg_eff rfl ?_
        go_wp2_with fail
        refine (itoa_any F4.out (HE2.out.new ho4)).mono ?_
        rintro e w5 ⟨rfl, ho5'⟩
        have ho5 : Only (fun _ => False) w2 w5 := ho4.trans' ho5'
        clear ho4
        clear ho5'
        obtain ⟨x5, hx5⟩ := str_var (Lib.itoa req)
        have Hx5 := Lib.hid hx5
        first | rw [hx5.2] | rw [show Str (hexL (ByteArray.mk _).data.toList) = _ from hx5.2]
        clear hx5
        go_wp2_with fail
        refine strict_intro ⟨⟨⟨w5, ho5⟩, rfl⟩, ?_⟩
        refine seg_free rfl ?_
        go_big_quiet_step (fail)
        refine wpQuiet_nil ?_
        refine seg_reads 1 (by decide) (by decide) ?_
        simp only [List.take_succ_cons, List.take_zero, List.drop_succ_cons, List.drop_zero]
        iterate 1 (go_big_quiet_step (fail))
        refine wpQuiet_nil ?_
        refine seg_free rfl ?_
        go_big_quiet_step (fail)
        refine wpQuiet_nil ?_
        refine seg_reads 1 (by decide) (by decide) ?_
        simp only [List.take_succ_cons, List.take_zero, List.drop_succ_cons, List.drop_zero]
        iterate 1 (go_big_quiet_step (fail))
        refine wpQuiet_nil ?_
        refine seg_free rfl ?_
        go_big_quiet_step (fail)
        refine wpQuiet_nil ?_
        refine seg_reads 1 (by decide) (by decide) ?_
        simp only [List.take_succ_cons, List.take_zero, List.drop_succ_cons, List.drop_zero]
        iterate 1 (go_big_quiet_step (fail))
        refine wpQuiet_nil ?_
        refine seg_eff rfl ?_
        go_wp2_with fail
        refine (hex_any ⟨key.toArray⟩ (show key.toArray.size ≤ _ by rw [List.size_toArray]; exact h1)).mono ?_
        rintro e w6 ⟨rfl, ho6'⟩
        have ho6 : Only (fun _ => False) w2 w6 := ho5.trans' ho6'
        clear ho5
        clear ho6'
        obtain ⟨x6, hx6⟩ := str_var (hexL key)
        have Hx6 := Lib.hid hx6
        first | rw [hx6.2] | rw [show Str (hexL (ByteArray.mk _).data.toList) = _ from hx6.2]
        clear hx6
        go_wp2_with fail
        refine strict_intro ⟨⟨⟨w6, ho6⟩, rfl⟩, ?_⟩
        refine seg_free rfl ?_
        go_big_quiet_step (fail)
        refine wpQuiet_nil ?_
        refine seg_reads 1 (by decide) (by decide) ?_
        simp only [List.take_succ_cons, List.take_zero, List.drop_succ_cons, List.drop_zero]
        iterate 1 (go_big_quiet_step (fail))
        refine wpQuiet_nil ?_
        refine seg_eff rfl ?_
        go_wp2_with fail
        refine (hex_any ⟨val.toArray⟩ (show val.toArray.size ≤ _ by rw [List.size_toArray]; exact h2)).mono ?_
        rintro e w7 ⟨rfl, ho7'⟩
        have ho7 : Only (fun _ => False) w2 w7 := ho6.trans' ho7'
        clear ho6
        clear ho7'
        obtain ⟨x7, hx7⟩ := str_var (hexL val)
        have Hx7 := Lib.hid hx7
        first | rw [hx7.2] | rw [show Str (hexL (ByteArray.mk _).data.toList) = _ from hx7.2]
        clear hx7
        go_wp2_with fail
        refine strict_intro ⟨⟨⟨w7, ho7⟩, rfl⟩, ?_⟩
        refine seg_list' _ _ _ _ (by kernel_rfl) ?_
        refine wpl_buildSlice rfl _ rfl rfl (vals := #[(0, .string ⟨#[99, 97, 108, 108]⟩), (1, .string x3), (2, .string x4), (3, .string x5), (4, .string cwb), (5, .string x6), (6, .string x7)]) (by simp [Act.eval, Act.put]) (bs7 _ _ _ _ _ _ _) ?_
        go_wp2_with fail
        have hjn := Lib.hid (show jn 32 (lists [⟨#[99, 97, 108, 108]⟩, x3, x4, x5, cwb, x6, x7]) = jn 32 [stepsT.getD 1 [], Lib.itoa node, Lib.itoa sess, Lib.itoa req, cwd, hexL key, hexL val] by unfold lists; simp only [List.map_cons, List.map_nil, Hx3.out.1, Hx4.out.1, Hx5.out.1, Hcwb.out.1, Hx6.out.1, Hx7.out.1]; rfl)
        refine Calls.mono (join_new (w := w7) (xs := [⟨#[99, 97, 108, 108]⟩, x3, x4, x5, cwb, x6, x7]) (by simp) (by simp) (by rw [hjn.out]; have := hlen.out; omega)) ?_
        rintro e w8 ⟨rfl, ho8⟩
        unfold Str
        go_wp2_with fail
        refine strict_then ?_
        go_wp2_with fail
        go_ret2
        exact ⟨((HO.out.trans' HOA.out).trans' ho7).trans' ho8, .inl ⟨_, hline.out, by rw [← hjn.out]; rfl⟩⟩
    · have hline := Lib.hid (show lineL ⟨1, node, sess, req, ck, key, val, at_, n, keep, tear⟩ = none by
        unfold lineL lineW
        simp only
        rw [if_pos trivial, if_neg hc]; rfl)
      have hO := HO.out
      by_cases hlt : ck < 1
      · have g1 : decide (ck < 1) = true := decide_eq_true hlt
        clear hc
        as_aux_lemma =>
          go_wp2_with fail
          go_ret2
          exact ⟨hO.alloc _, .inr ⟨hline.out, rfl⟩⟩
      · have g1 : decide (ck < 1) = false := decide_eq_false hlt
        have g2 : decide (ck > 6) = true := decide_eq_true (by omega)
        have g3 : decide (6 < ck) = true := g2
        clear hc
        as_aux_lemma =>
          go_wp2_with fail
          go_ret2
          exact ⟨hO.alloc _, .inr ⟨hline.out, rfl⟩⟩
  by_cases k9 : kind = 9
  · subst k9
    have c1 := cell_of_blk KS.out 1
    have c8 := cell_of_blk KS.out 8
    have c9 := cell_of_blk KS.out 9
    have c10 := cell_of_blk KS.out 10
    simp only [List.getElem?_toArray, List.getElem?_cons_zero, List.getElem?_cons_succ] at c1 c8 c9 c10
    have zb := bitsL_le keep hk
    have hlen := Lib.hid (show (jn 32 [stepsT.getD 9 [], Lib.itoa node, Lib.itoa n, Lib.itoa tear, bitsL keep]).length ≤ 2000000000 by
      have e0 : (stepsT.getD 9 []).length = 2 := rfl
      simp only [jn_cons, jn_one, List.length_append, List.length_cons]
      omega)
    as_aux_lemma =>
      have l1 := later_cell (S := fun _ => False) c1 id
      have l8 := later_cell (S := fun _ => False) c8 id
      have l9 := later_cell (S := fun _ => False) c9 id
      have l10 := later_cell (S := fun _ => False) c10 id
      go_wp2_with fail
      refine wp_region_segL [1,1,1,2,0,0,1,2,0,0,1,2,0,1,2,2,2,2,2] (fun _ => False) (by kernel_rfl) (by kernel_rfl) ?_
      refine seg_reads 3 (by decide) (by decide) ?_
      simp only [List.take_succ_cons, List.take_zero, List.drop_succ_cons, List.drop_zero]
      iterate 3 (go_big_quiet_step (fail))
      refine wpQuiet_nil ?_
      refine seg_eff rfl ?_
      go_wp2_with fail
      refine (itoa_any F2.out (HE1.out.new (Only.refl _ _).drew)).mono ?_
      rintro e w2 ⟨rfl, ho2'⟩
      have ho2 : Only (fun _ => False) w1 w2 := (Only.refl _ _).drew.trans' ho2'
      clear ho2'
      obtain ⟨x2, hx2⟩ := str_var (Lib.itoa node)
      have Hx2 := Lib.hid hx2
      first | rw [hx2.2] | rw [show Str (hexL (ByteArray.mk _).data.toList) = _ from hx2.2]
      clear hx2
      go_wp2_with fail
      refine strict_intro ⟨⟨⟨w2, ho2⟩, rfl⟩, ?_⟩
      refine seg_free rfl ?_
      go_big_quiet_step (fail)
      refine wpQuiet_nil ?_
      refine seg_free rfl ?_
      go_big_quiet_step (fail)
      refine wpQuiet_nil ?_
      refine seg_reads 1 (by decide) (by decide) ?_
      simp only [List.take_succ_cons, List.take_zero, List.drop_succ_cons, List.drop_zero]
      iterate 1 (go_big_quiet_step (fail))
      refine wpQuiet_nil ?_
      refine seg_eff rfl ?_
      go_wp2_with fail
      refine (itoa_any F7.out (HE1.out.new ho2)).mono ?_
      rintro e w3 ⟨rfl, ho3'⟩
      have ho3 : Only (fun _ => False) w1 w3 := ho2.trans' ho3'
      clear ho2
      clear ho3'
      obtain ⟨x3, hx3⟩ := str_var (Lib.itoa n)
      have Hx3 := Lib.hid hx3
      first | rw [hx3.2] | rw [show Str (hexL (ByteArray.mk _).data.toList) = _ from hx3.2]
      clear hx3
      go_wp2_with fail
      refine strict_intro ⟨⟨⟨w3, ho3⟩, rfl⟩, ?_⟩
      refine seg_free rfl ?_
      go_big_quiet_step (fail)
      refine wpQuiet_nil ?_
      refine seg_free rfl ?_
      go_big_quiet_step (fail)
      refine wpQuiet_nil ?_
      refine seg_reads 1 (by decide) (by decide) ?_
      simp only [List.take_succ_cons, List.take_zero, List.drop_succ_cons, List.drop_zero]
      iterate 1 (go_big_quiet_step (fail))
      refine wpQuiet_nil ?_
      refine seg_eff rfl ?_
      go_wp2_with fail
      refine (itoa_any F8.out (HE1.out.new ho3)).mono ?_
      rintro e w4 ⟨rfl, ho4'⟩
      have ho4 : Only (fun _ => False) w1 w4 := ho3.trans' ho4'
      clear ho3
      clear ho4'
      obtain ⟨x4, hx4⟩ := str_var (Lib.itoa tear)
      have Hx4 := Lib.hid hx4
      first | rw [hx4.2] | rw [show Str (hexL (ByteArray.mk _).data.toList) = _ from hx4.2]
      clear hx4
      go_wp2_with fail
      refine strict_intro ⟨⟨⟨w4, ho4⟩, rfl⟩, ?_⟩
      refine seg_free rfl ?_
      go_big_quiet_step (fail)
      refine wpQuiet_nil ?_
      refine seg_reads 1 (by decide) (by decide) ?_
      simp only [List.take_succ_cons, List.take_zero, List.drop_succ_cons, List.drop_zero]
      iterate 1 (go_big_quiet_step (fail))
      refine wpQuiet_nil ?_
      refine seg_list' _ _ _ _ (by kernel_rfl) ?_
      go_wp2_with fail
      refine (bits_any (HR1.out.new ho4) hk).mono ?_
      rintro e w5 ⟨rfl, ho5'⟩
      have ho5 : Only (fun _ => False) w1 w5 := ho4.trans' ho5'
      clear ho4
      clear ho5'
      obtain ⟨x5, hx5⟩ := str_var (bitsL keep)
      have Hx5 := Lib.hid hx5
      first | rw [hx5.2] | rw [show Str (hexL (ByteArray.mk _).data.toList) = _ from hx5.2]
      clear hx5
      dsimp only
      go_step
      refine wpl_buildSlice rfl _ rfl rfl (vals := #[(0, .string ⟨#[111, 110]⟩), (1, .string x2), (2, .string x3), (3, .string x4), (4, .string x5)]) (by simp [Act.eval, Act.put]) (bs5 _ _ _ _ _) ?_
      go_wp2_with fail
      have hjn := Lib.hid (show jn 32 (lists [⟨#[111, 110]⟩, x2, x3, x4, x5]) = jn 32 [stepsT.getD 9 [], Lib.itoa node, Lib.itoa n, Lib.itoa tear, bitsL keep] by unfold lists; simp only [List.map_cons, List.map_nil, Hx2.out.1, Hx3.out.1, Hx4.out.1, Hx5.out.1]; rfl)
      refine Calls.mono (join_new (w := w5) (xs := [⟨#[111, 110]⟩, x2, x3, x4, x5]) (by simp) (by simp) (by rw [hjn.out]; have := hlen.out; omega)) ?_
      rintro e w6 ⟨rfl, ho6⟩
      unfold Str
      go_wp2_with fail
      refine strict_then ?_
      go_wp2_with fail
      go_ret2
      exact ⟨(HO.out.trans' ho5).trans' ho6, .inl ⟨jn 32 [stepsT.getD 9 [], Lib.itoa node, Lib.itoa n, Lib.itoa tear, bitsL keep], rfl, by rw [← hjn.out]; rfl⟩⟩
  have hline := Lib.hid (show lineL ⟨kind, node, sess, req, ck, key, val, at_, n, keep, tear⟩ = none by
    unfold lineL lineW
    simp only
    rw [if_neg k1, if_neg k9, if_neg k7, if_neg (by omega), if_neg (by omega)]; rfl)
  have hO := HO.out
  have g1 : (kind == 1) = false := by simpa using k1
  have g2 : (kind == 2) = false := by simpa using k2
  have g3 : (kind == 3) = false := by simpa using k3
  have g4 : (kind == 4) = false := by simpa using k4
  have g5 : (kind == 5) = false := by simpa using k5
  have g6 : (kind == 6) = false := by simpa using k6
  have g7 : (kind == 7) = false := by simpa using k7
  have g8 : (kind == 8) = false := by simpa using k8
  have g9 : (kind == 9) = false := by simpa using k9
  clear k1 k2 k3 k4 k5 k6 k7 k8 k9
  as_aux_lemma =>
    go_wp2_with fail
    go_ret2
    exact ⟨hO, .inr ⟨hline.out, rfl⟩⟩
end Go.Proofs.YtcocmljollnpdaaDoor
