/- script: a law's Same and fit. -/
import Derived.Test.YtcocmljollnpdaaDoorSc10
import Derived.Test.YtcocmljollnpdaaDoorSc3
import Derived.Deep.RegionWith
import Derived.Deep.Cut
namespace Go.Proofs.YtcocmljollnpdaaDoor
open Go Go.RowKit Go.Dm
set_option linter.unusedVariables false
set_option linter.unusedSimpArgs false

theorem blk_s2 {w : World} {a b : Obj} : ((w.alloc a).alloc b).heap[w.heap.size + 1]? = some b := by
  have := blk_alloc_new (w := w.alloc a) (o := b)
  rwa [show (w.alloc a).heap.size = w.heap.size + 1 from Array.size_push _] at this
def fitB (s : Stp) : Bool := decide (s.key.length ≤ 60) && (decide (s.val.length ≤ 60) && decide (s.keep.length ≤ 60))
set_option maxHeartbeats 8000000 in
set_option maxRecDepth 100000 in
theorem fit_any {s : Stp} {v : Value} {w : World} (hr : Row1 w v (bools s.keep)) :
    Calls Tryd.prog 16 #[.agg (s.cells v).toArray] w fun e w' => e = .returned (.bool (fitB s)) ∧ Only (fun _ => False) w w' := by
  obtain ⟨kind, node, sess, req, ck, key, val, at_, n, keep, tear⟩ := s
  obtain ⟨a, cap, hv, _⟩ := hr
  simp only at hv
  have hl : (bools keep).length = keep.length := by unfold bools; rw [List.length_map]
  rw [hl] at hv
  subst hv
  have HF := Lib.hid (show fitB ⟨kind, node, sess, req, ck, key, val, at_, n, keep, tear⟩ = (decide (key.length ≤ 60) && (decide (val.length ≤ 60) && decide (keep.length ≤ 60))) from rfl)
  clear hl
  unfold Stp.cells Str
  have ho : Only (fun _ => False) w (w.alloc (.cells #[.int .i64 kind, .int .i64 node, .int .i64 sess, .int .i64 req, .int .i64 ck, .string ⟨key.toArray⟩, .string ⟨val.toArray⟩, .int .i64 at_, .int .i64 n, .slice a keep.length cap, .int .i64 tear] 27)) := (Only.refl _ _).alloc _
  have HO := Lib.hid ho
  clear ho
  by_cases h1 : key.length ≤ 60
  · by_cases h2 : val.length ≤ 60
    · by_cases h3 : keep.length ≤ 60
      · have g1 : decide ((key.length : Int) ≤ 60) = true := decide_eq_true (by omega)
        have g2 : decide ((val.length : Int) ≤ 60) = true := decide_eq_true (by omega)
        have g3 : decide ((keep.length : Int) ≤ 60) = true := decide_eq_true (by omega)
        have HR := Lib.hid (show fitB ⟨kind, node, sess, req, ck, key, val, at_, n, keep, tear⟩ = true by rw [HF.out]; simp [h1, h2, h3])
        clear h1 h2 h3 HF
        go_enter Tryd.func16, Tryd.ntmps16
        go_wp2_with fail
        go_ret
        exact ⟨by rw [HR.out]; rfl, HO.out⟩
      · have g1 : decide ((key.length : Int) ≤ 60) = true := decide_eq_true (by omega)
        have g2 : decide ((val.length : Int) ≤ 60) = true := decide_eq_true (by omega)
        have g3 : decide ((keep.length : Int) ≤ 60) = false := decide_eq_false (by omega)
        have HR := Lib.hid (show fitB ⟨kind, node, sess, req, ck, key, val, at_, n, keep, tear⟩ = false by rw [HF.out]; simp [h1, h2, h3])
        clear h1 h2 h3 HF
        go_enter Tryd.func16, Tryd.ntmps16
        go_wp2_with fail
        go_ret
        exact ⟨by rw [HR.out]; rfl, HO.out⟩
    · have g1 : decide ((key.length : Int) ≤ 60) = true := decide_eq_true (by omega)
      have g2 : decide ((val.length : Int) ≤ 60) = false := decide_eq_false (by omega)
      have HR := Lib.hid (show fitB ⟨kind, node, sess, req, ck, key, val, at_, n, keep, tear⟩ = false by rw [HF.out]; simp [h1, h2])
      clear h1 h2 HF
      go_enter Tryd.func16, Tryd.ntmps16
      go_wp2_with fail
      go_ret
      exact ⟨by rw [HR.out]; rfl, HO.out⟩
  · have g1 : decide ((key.length : Int) ≤ 60) = false := decide_eq_false (by omega)
    have HR := Lib.hid (show fitB ⟨kind, node, sess, req, ck, key, val, at_, n, keep, tear⟩ = false by rw [HF.out]; simp [h1])
    clear h1 HF
    go_enter Tryd.func16, Tryd.ntmps16
    go_wp2_with fail
    go_ret
    exact ⟨by rw [HR.out]; rfl, HO.out⟩

set_option maxHeartbeats 8000000 in
set_option maxRecDepth 100000 in
theorem same_any {s : Stp} {u v : Value} {w : World} (hu : Row1 w u (bools s.keep)) (hv : Row1 w v (bools s.keep)) :
    Calls Tryd.prog 10 #[.agg (s.cells u).toArray, .agg (s.cells v).toArray] w fun e w' => e = .returned (.bool true) ∧ Only (fun _ => False) w w' := by
  obtain ⟨kind, node, sess, req, ck, key, val, at_, n, keep, tear⟩ := s
  obtain ⟨a, cap, hu1, hcu, hmu, hu⟩ := hu
  obtain ⟨b, cap2, hv1, hcv, hmv, hv⟩ := hv
  have hl : (bools keep).length = keep.length := by unfold bools; rw [List.length_map]
  simp only at hu1 hv1 hcu hcv hu hv
  rw [hl] at hu1 hv1 hcu hcv hu hv
  subst hu1 hv1
  generalize hN : keep.length = N at *
  have HN := Lib.hid hN
  have HU := Lib.hid hu
  have HV := Lib.hid hv
  clear hN hu hv hl
  unfold Stp.cells Str
  go_enter Tryd.func10, Tryd.ntmps10
  go_upto_region 1 with fail
  have ho1 : Only (fun _ => False) w ((w.alloc (Obj.cells #[.int .i64 kind, .int .i64 node, .int .i64 sess, .int .i64 req, .int .i64 ck, .string ⟨key.toArray⟩, .string ⟨val.toArray⟩, .int .i64 at_, .int .i64 n, .slice a N cap, .int .i64 tear] 27)).alloc (Obj.cells #[.int .i64 kind, .int .i64 node, .int .i64 sess, .int .i64 req, .int .i64 ck, .string ⟨key.toArray⟩, .string ⟨val.toArray⟩, .int .i64 at_, .int .i64 n, .slice b N cap2, .int .i64 tear] 27)) := ((Only.refl _ _).alloc _).alloc _
  have k1 : ((w.alloc (Obj.cells #[.int .i64 kind, .int .i64 node, .int .i64 sess, .int .i64 req, .int .i64 ck, .string ⟨key.toArray⟩, .string ⟨val.toArray⟩, .int .i64 at_, .int .i64 n, .slice a N cap, .int .i64 tear] 27)).alloc (Obj.cells #[.int .i64 kind, .int .i64 node, .int .i64 sess, .int .i64 req, .int .i64 ck, .string ⟨key.toArray⟩, .string ⟨val.toArray⟩, .int .i64 at_, .int .i64 n, .slice b N cap2, .int .i64 tear] 27)).heap[w.heap.size]? = some (.cells #[.int .i64 kind, .int .i64 node, .int .i64 sess, .int .i64 req, .int .i64 ck, .string ⟨key.toArray⟩, .string ⟨val.toArray⟩, .int .i64 at_, .int .i64 n, .slice a N cap, .int .i64 tear] 27 (0, 0)) := blk_alloc_old blk_alloc_new
  have k2 : ((w.alloc (Obj.cells #[.int .i64 kind, .int .i64 node, .int .i64 sess, .int .i64 req, .int .i64 ck, .string ⟨key.toArray⟩, .string ⟨val.toArray⟩, .int .i64 at_, .int .i64 n, .slice a N cap, .int .i64 tear] 27)).alloc (Obj.cells #[.int .i64 kind, .int .i64 node, .int .i64 sess, .int .i64 req, .int .i64 ck, .string ⟨key.toArray⟩, .string ⟨val.toArray⟩, .int .i64 at_, .int .i64 n, .slice b N cap2, .int .i64 tear] 27)).heap[w.heap.size + 1]? = some (.cells #[.int .i64 kind, .int .i64 node, .int .i64 sess, .int .i64 req, .int .i64 ck, .string ⟨key.toArray⟩, .string ⟨val.toArray⟩, .int .i64 at_, .int .i64 n, .slice b N cap2, .int .i64 tear] 27 (0, 0)) := blk_s2
  generalize ((w.alloc (Obj.cells #[.int .i64 kind, .int .i64 node, .int .i64 sess, .int .i64 req, .int .i64 ck, .string ⟨key.toArray⟩, .string ⟨val.toArray⟩, .int .i64 at_, .int .i64 n, .slice a N cap, .int .i64 tear] 27)).alloc (Obj.cells #[.int .i64 kind, .int .i64 node, .int .i64 sess, .int .i64 req, .int .i64 ck, .string ⟨key.toArray⟩, .string ⟨val.toArray⟩, .int .i64 at_, .int .i64 n, .slice b N cap2, .int .i64 tear] 27)) = w1 at *
  generalize hB : w.heap.size = B at *
  have hNm : N ≤ 9223372036854775807 := by unfold maxLen at hmu; omega
  have HO := Lib.hid ho1
  have c0 := cell_of_blk k1 0
  have d0 := cell_of_blk k2 0
  have c1 := cell_of_blk k1 1
  have d1 := cell_of_blk k2 1
  have c2 := cell_of_blk k1 2
  have d2 := cell_of_blk k2 2
  have c3 := cell_of_blk k1 3
  have d3 := cell_of_blk k2 3
  have c4 := cell_of_blk k1 4
  have d4 := cell_of_blk k2 4
  have c5 := cell_of_blk k1 5
  have d5 := cell_of_blk k2 5
  have c6 := cell_of_blk k1 6
  have d6 := cell_of_blk k2 6
  have c7 := cell_of_blk k1 7
  have d7 := cell_of_blk k2 7
  have c8 := cell_of_blk k1 8
  have d8 := cell_of_blk k2 8
  have c9 := cell_of_blk k1 9
  have d9 := cell_of_blk k2 9
  have c10 := cell_of_blk k1 10
  have d10 := cell_of_blk k2 10
  simp only [List.getElem?_toArray, List.getElem?_cons_zero, List.getElem?_cons_succ] at c0 d0 c1 d1 c2 d2 c3 d3 c4 d4 c5 d5 c6 d6 c7 d7 c8 d8 c9 d9 c10 d10
  have K1 := Lib.hid k1
  have K2 := Lib.hid k2
  clear k1 k2 ho1
  go_upto_region 3 with fail
  clear c0 d0 c1 d1 c2 d2 c3 d3 c4 d4 c5 d5 c6 d6 c7 d7 c8 d8 c9 d9 c10 d10
  have c9 := cell_of_blk K1.out 9
  simp only [List.getElem?_toArray, List.getElem?_cons_zero, List.getElem?_cons_succ] at c9
  go_wp2_with fail
  clear c9
  go_loopw [58] (fun iv wr => ∃ k : Nat, k ≤ N ∧ iv = .int .i64 (k : Int) ∧ Only (fun _ => False) w1 wr) (fun iv _ => N - (intOf iv).toNat)
  case atStart => exact ⟨0, Nat.zero_le _, rfl, Only.refl _ _⟩
  case round =>
    obtain ⟨k, hk, rfl, ho⟩ := hrel
    by_cases hlt : k < N
    · have hx : keep[k]? = some (keep[k]'(by rw [HN.out]; exact hlt)) := List.getElem?_eq_getElem _
      obtain ⟨b1, o1, rfl, hb1, hc1⟩ := HU.out (by omega)
      obtain ⟨b2, o2, rfl, hb2, hc2⟩ := HV.out (by omega)
      have x1 := hc1 k (.bool (keep[k]'(by rw [HN.out]; exact hlt))) (by unfold bools; rw [List.getElem?_map, hx]; rfl)
      have x2 := hc2 k (.bool (keep[k]'(by rw [HN.out]; exact hlt))) (by unfold bools; rw [List.getElem?_map, hx]; rfl)
      generalize keep[k]'(by rw [HN.out]; exact hlt) = x at *
      have hoo := HO.out.trans' ho
      have y1 : wr.cell? ⟨b1, o1 + k, none⟩ = some (.bool x) := by rw [World.cell?_of_block (w := w) (hoo.block b1 (by omega) id)]; exact x1
      have y2 : wr.cell? ⟨b2, o2 + k, none⟩ = some (.bool x) := by rw [World.cell?_of_block (w := w) (hoo.block b2 (by omega) id)]; exact x2
      have e1 := cell_of_blk (ho.blk K1.out id) 9
      have e2 := cell_of_blk (ho.blk K2.out id) 9
      simp only [List.getElem?_toArray, List.getElem?_cons_zero, List.getElem?_cons_succ] at e1 e2
      have q0 : (0 : Int) ≤ (k : Int) := by omega
      have q1 : (k : Int) < (N : Int) := by omega
      clear hx hc1 hc2 x1 x2
      cases x
      · go_wp2_with fail
        refine wp_region_segR [1,1,1,1,1,1,1,1,1,1,1] (by kernel_rfl) (by kernel_rfl) ?_
        refine seg_reads 11 (by decide) (by decide) ?_
        simp only [List.take_succ_cons, List.take_zero, List.drop_succ_cons, List.drop_zero]
        iterate 11 (go_big_quiet_step (fail))
        refine wpQuiet_nil ?_
        refine seg_nil_intro ?_
        go_wp2_with fail
        go_roundw
        case rel => exact ⟨k + 1, by omega, by simp, ho.drew⟩
        case measure => simp [intOf]; omega
      · go_wp2_with fail
        refine wp_region_segR [1,1,1,1,1,1,1,1,1,1,1] (by kernel_rfl) (by kernel_rfl) ?_
        refine seg_reads 11 (by decide) (by decide) ?_
        simp only [List.take_succ_cons, List.take_zero, List.drop_succ_cons, List.drop_zero]
        iterate 11 (go_big_quiet_step (fail))
        refine wpQuiet_nil ?_
        refine seg_nil_intro ?_
        go_wp2_with fail
        go_roundw
        case rel => exact ⟨k + 1, by omega, by simp, ho.drew⟩
        case measure => simp [intOf]; omega
    · obtain rfl : k = N := by omega
      go_wp2_with fail
      go_ret
      exact ⟨rfl, HO.out.trans' ho⟩
end Go.Proofs.YtcocmljollnpdaaDoor
