/- script: a law's Only and fit. -/
import Derived.Test.YtcocmljollnpdaaDoorSc10
import Derived.Test.YtcocmljollnpdaaDoorSc3
import Derived.Test.YtcocmljollnpdaaDoorSc7
import Derived.Deep.RegionWith
import Derived.Deep.Cut
namespace Go.Proofs.YtcocmljollnpdaaDoor
open Go Go.RowKit Go.Dm
set_option linter.unusedVariables false
set_option linter.unusedSimpArgs false

theorem blk_three {w : World} {a b c : Obj} : (((w.alloc a).alloc b).alloc c).heap[w.heap.size + 1 + 1]? = some c := by
  have := blk_alloc_new (w := (w.alloc a).alloc b) (o := c)
  rwa [show ((w.alloc a).alloc b).heap.size = w.heap.size + 1 + 1 from (Array.size_push _).trans (congrArg (· + 1) (Array.size_push _))] at this
theorem blk_2of3 {w : World} {a b c : Obj} : (((w.alloc a).alloc b).alloc c).heap[w.heap.size + 1]? = some b := by
  refine blk_alloc_old ?_
  have := blk_alloc_new (w := w.alloc a) (o := b)
  rwa [show (w.alloc a).heap.size = w.heap.size + 1 from Array.size_push _] at this
set_option maxHeartbeats 4000000 in
set_option maxRecDepth 100000 in
theorem ret12 {tmps : Array Value} {w : World} {b : Nat} {x0 x1 x2 x3 x4 x5 x6 x7 x8 x9 x10 : Value} (ht : tmps.getD 2 undef = .pointer (some ⟨b, 0, none⟩))
    (h : w.ownsRow 0 27 11 (.slice (some ⟨b, 0, none⟩) 1 1) 1 [x0, x1, x2, x3, x4, x5, x6, x7, x8, x9, x10]) :
    (results Tryd.f12 tmps).run Tryd.prog w = .ok (.agg #[x0, x1, x2, x3, x4, x5, x6, x7, x8, x9, x10]) w := by
  have r0 := res_cells h 0 rfl
  have r1 := res_cells h 1 rfl
  have r2 := res_cells h 2 rfl
  have r3 := res_cells h 3 rfl
  have r4 := res_cells h 4 rfl
  have r5 := res_cells h 5 rfl
  have r6 := res_cells h 6 rfl
  have r7 := res_cells h 7 rfl
  have r8 := res_cells h 8 rfl
  have r9 := res_cells h 9 rfl
  have r10 := res_cells h 10 rfl
  clear h
  have hb : tmps[2]?.getD undef = .pointer (some ⟨b, 0, none⟩) := by simpa using ht
  simp [results, Tryd.results12, go_sem, ht, hb, r0, r1, r2, r3, r4, r5, r6, r7, r8, r9, r10]
set_option maxHeartbeats 4000000 in
set_option maxRecDepth 100000 in
theorem load27 {w : World} {b : Nat} {x0 x1 x2 x3 x4 x5 x6 x7 x8 x9 x10 : Value}
    (h : w.ownsRow 0 27 11 (.slice (some ⟨b, 0, none⟩) 1 1) 1 [x0, x1, x2, x3, x4, x5, x6, x7, x8, x9, x10]) :
    (loadVar 27 ⟨b, 0, none⟩).run Tryd.prog w = .ok (.agg #[x0, x1, x2, x3, x4, x5, x6, x7, x8, x9, x10]) w := by
  have r0 := res_cells h 0 rfl
  have r1 := res_cells h 1 rfl
  have r2 := res_cells h 2 rfl
  have r3 := res_cells h 3 rfl
  have r4 := res_cells h 4 rfl
  have r5 := res_cells h 5 rfl
  have r6 := res_cells h 6 rfl
  have r7 := res_cells h 7 rfl
  have r8 := res_cells h 8 rfl
  have r9 := res_cells h 9 rfl
  have r10 := res_cells h 10 rfl
  clear h
  simp [go_sem, r0, r1, r2, r3, r4, r5, r6, r7, r8, r9, r10]
theorem wpl_load27 {ops : Array Oper} {Q : Exit → Act → World → Prop} {rest : List Oper} {o : Oper} {a : Act} {w : World} (hg : o.guard = none) (d : Tmp) (hd : o.dst = some d) (p : Operand) (hop : o.op = .load 27 p)
    {b : Nat} (hp : a.eval p = .pointer (some ⟨b, 0, none⟩)) {x0 x1 x2 x3 x4 x5 x6 x7 x8 x9 x10 : Value}
    (h : w.ownsRow 0 27 11 (.slice (some ⟨b, 0, none⟩) 1 1) 1 [x0, x1, x2, x3, x4, x5, x6, x7, x8, x9, x10])
    (hK : wpList Tryd.prog ops Q rest (a.put d (.agg #[x0, x1, x2, x3, x4, x5, x6, x7, x8, x9, x10])) w) : wpList Tryd.prog ops Q (o :: rest) a w := by
  refine wpList_plain hg fun K' hK' => ?_
  have hrun := load27 h
  unfold Oper.wp execOp
  simp only [hop, hp, Instr.loadAt, Instr.sureAddr, bind, Sem.run_bind', hrun, Result.andThen_ok, pure, Sem.run]
  simp only [Oper.upon, hd]
  exact hK' _ _ hK
def OnlyR (s : Stp) (w : World) (e : Ending) (w' : World) : Prop :=
  Only (fun _ => False) w w' ∧ ∃ u, e = .returned (.agg ((onlyS s).cells u).toArray) ∧ Row1 w' u (bools (onlyS s).keep)
set_option maxHeartbeats 8000000 in
set_option maxRecDepth 100000 in
theorem only_any {s : Stp} {v : Value} {w : World} (hr : Row1 w v (bools s.keep)) :
    Calls Tryd.prog 12 #[.agg (s.cells v).toArray] w (OnlyR s w) := by
  obtain ⟨kind, node, sess, req, ck, key, val, at_, n, keep, tear⟩ := s
  simp only at hr
  have HR := Lib.hid hr
  obtain ⟨a, cap, hv, _⟩ := hr
  generalize (bools keep).length = N at hv
  subst hv
  unfold Stp.cells Str
  go_enter Tryd.func12, Tryd.ntmps12
  go_upto_region 2 with fail
  have ho1 : Only (fun _ => False) w (((w.alloc (Obj.cells #[(.int .i64 kind : Value), .int .i64 node, .int .i64 sess, .int .i64 req, .int .i64 ck, .string ⟨key.toArray⟩, .string ⟨val.toArray⟩, .int .i64 at_, .int .i64 n, .slice a N cap, .int .i64 tear] 27)).alloc (Obj.cells #[(.int .i64 0 : Value), .int .i64 0, .int .i64 0, .int .i64 0, .int .i64 0, .string ⟨#[]⟩, .string ⟨#[]⟩, .int .i64 0, .int .i64 0, .slice none 0 0, .int .i64 0] 27)).alloc (Obj.cells #[(.int .i64 kind : Value), .int .i64 0, .int .i64 0, .int .i64 0, .int .i64 0, .string ⟨#[]⟩, .string ⟨#[]⟩, .int .i64 0, .int .i64 0, .slice none 0 0, .int .i64 0] 27)) := (((Only.refl _ _).alloc _).alloc _).alloc _
  have k0 : (((w.alloc (Obj.cells #[(.int .i64 kind : Value), .int .i64 node, .int .i64 sess, .int .i64 req, .int .i64 ck, .string ⟨key.toArray⟩, .string ⟨val.toArray⟩, .int .i64 at_, .int .i64 n, .slice a N cap, .int .i64 tear] 27)).alloc (Obj.cells #[(.int .i64 0 : Value), .int .i64 0, .int .i64 0, .int .i64 0, .int .i64 0, .string ⟨#[]⟩, .string ⟨#[]⟩, .int .i64 0, .int .i64 0, .slice none 0 0, .int .i64 0] 27)).alloc (Obj.cells #[(.int .i64 kind : Value), .int .i64 0, .int .i64 0, .int .i64 0, .int .i64 0, .string ⟨#[]⟩, .string ⟨#[]⟩, .int .i64 0, .int .i64 0, .slice none 0 0, .int .i64 0] 27)).heap[w.heap.size]? = some (Obj.cells #[(.int .i64 kind : Value), .int .i64 node, .int .i64 sess, .int .i64 req, .int .i64 ck, .string ⟨key.toArray⟩, .string ⟨val.toArray⟩, .int .i64 at_, .int .i64 n, .slice a N cap, .int .i64 tear] 27) := blk_alloc_old (blk_alloc_old blk_alloc_new)
  have k1 : (((w.alloc (Obj.cells #[(.int .i64 kind : Value), .int .i64 node, .int .i64 sess, .int .i64 req, .int .i64 ck, .string ⟨key.toArray⟩, .string ⟨val.toArray⟩, .int .i64 at_, .int .i64 n, .slice a N cap, .int .i64 tear] 27)).alloc (Obj.cells #[(.int .i64 0 : Value), .int .i64 0, .int .i64 0, .int .i64 0, .int .i64 0, .string ⟨#[]⟩, .string ⟨#[]⟩, .int .i64 0, .int .i64 0, .slice none 0 0, .int .i64 0] 27)).alloc (Obj.cells #[(.int .i64 kind : Value), .int .i64 0, .int .i64 0, .int .i64 0, .int .i64 0, .string ⟨#[]⟩, .string ⟨#[]⟩, .int .i64 0, .int .i64 0, .slice none 0 0, .int .i64 0] 27)).heap[w.heap.size + 1]? = some (Obj.cells #[(.int .i64 0 : Value), .int .i64 0, .int .i64 0, .int .i64 0, .int .i64 0, .string ⟨#[]⟩, .string ⟨#[]⟩, .int .i64 0, .int .i64 0, .slice none 0 0, .int .i64 0] 27) := blk_2of3
  have k2 : (((w.alloc (Obj.cells #[(.int .i64 kind : Value), .int .i64 node, .int .i64 sess, .int .i64 req, .int .i64 ck, .string ⟨key.toArray⟩, .string ⟨val.toArray⟩, .int .i64 at_, .int .i64 n, .slice a N cap, .int .i64 tear] 27)).alloc (Obj.cells #[(.int .i64 0 : Value), .int .i64 0, .int .i64 0, .int .i64 0, .int .i64 0, .string ⟨#[]⟩, .string ⟨#[]⟩, .int .i64 0, .int .i64 0, .slice none 0 0, .int .i64 0] 27)).alloc (Obj.cells #[(.int .i64 kind : Value), .int .i64 0, .int .i64 0, .int .i64 0, .int .i64 0, .string ⟨#[]⟩, .string ⟨#[]⟩, .int .i64 0, .int .i64 0, .slice none 0 0, .int .i64 0] 27)).heap[w.heap.size + 1 + 1]? = some (Obj.cells #[(.int .i64 kind : Value), .int .i64 0, .int .i64 0, .int .i64 0, .int .i64 0, .string ⟨#[]⟩, .string ⟨#[]⟩, .int .i64 0, .int .i64 0, .slice none 0 0, .int .i64 0] 27) := blk_three
  generalize (((w.alloc (Obj.cells #[(.int .i64 kind : Value), .int .i64 node, .int .i64 sess, .int .i64 req, .int .i64 ck, .string ⟨key.toArray⟩, .string ⟨val.toArray⟩, .int .i64 at_, .int .i64 n, .slice a N cap, .int .i64 tear] 27)).alloc (Obj.cells #[(.int .i64 0 : Value), .int .i64 0, .int .i64 0, .int .i64 0, .int .i64 0, .string ⟨#[]⟩, .string ⟨#[]⟩, .int .i64 0, .int .i64 0, .slice none 0 0, .int .i64 0] 27)).alloc (Obj.cells #[(.int .i64 kind : Value), .int .i64 0, .int .i64 0, .int .i64 0, .int .i64 0, .string ⟨#[]⟩, .string ⟨#[]⟩, .int .i64 0, .int .i64 0, .slice none 0 0, .int .i64 0] 27)) = w1 at *
  have z0 := blk_lt k0
  have z1 := blk_lt k1
  have z2 := blk_lt k2
  obtain ⟨B, hB⟩ : ∃ B, w.heap.size = B := ⟨_, rfl⟩
  rw [hB] at k0 k1 k2 z0 z1 z2
  simp only [hB]
  have K0 := Lib.hid k0
  have K1 := Lib.hid (res_own k1)
  have K2 := Lib.hid k2
  have HO := Lib.hid ho1
  have HB := Lib.hid hB
  clear ho1 hB k0 k1 k2
  by_cases k1 : kind = 1
  · subst k1
    have hon := Lib.hid (show onlyS ⟨1, node, sess, req, ck, key, val, at_, n, keep, tear⟩ = ⟨1, node, sess, req, ck, key, val, 0, 0, [], 0⟩ from rfl)
    have c0 := cell_of_blk K0.out 0
    have c1 := cell_of_blk K0.out 1
    have c2 := cell_of_blk K0.out 2
    have c3 := cell_of_blk K0.out 3
    have c4 := cell_of_blk K0.out 4
    have c5 := cell_of_blk K0.out 5
    have c6 := cell_of_blk K0.out 6
    have d1 := cell_of_blk K2.out 1
    have d2 := cell_of_blk K2.out 2
    have d3 := cell_of_blk K2.out 3
    have d4 := cell_of_blk K2.out 4
    have d5 := cell_of_blk K2.out 5
    have d6 := cell_of_blk K2.out 6
    have f1 := free_of_blk K2.out 1
    have f2 := free_of_blk K2.out 2
    have f3 := free_of_blk K2.out 3
    have f4 := free_of_blk K2.out 4
    have f5 := free_of_blk K2.out 5
    have f6 := free_of_blk K2.out 6
    simp only [List.getElem?_toArray, List.getElem?_cons_zero, List.getElem?_cons_succ] at c0 c1 c2 c3 c4 c5 c6 d1 d2 d3 d4 d5 d6
    as_aux_lemma =>
      go_upto_region 20 with fail
      have s0 := blk_setCell_same (i := 1) (v := .int .i64 node) K2.out
      have s1 := blk_setCell_same (i := 2) (v := .int .i64 sess) s0
      have s2 := blk_setCell_same (i := 3) (v := .int .i64 req) s1
      have s3 := blk_setCell_same (i := 4) (v := .int .i64 ck) s2
      have s4 := blk_setCell_same (i := 5) (v := .string ⟨key.toArray⟩) s3
      have s5 := blk_setCell_same (i := 6) (v := .string ⟨val.toArray⟩) s4
      simp only [List.setIfInBounds_toArray, List.set_cons_succ, List.set_cons_zero] at s5
      have HS9 := Lib.hid (show (World.setCell (World.setCell (World.setCell (World.setCell (World.setCell (World.setCell w1 ⟨B + 1 + 1, 1, none⟩ (.int .i64 node)) ⟨B + 1 + 1, 2, none⟩ (.int .i64 sess)) ⟨B + 1 + 1, 3, none⟩ (.int .i64 req)) ⟨B + 1 + 1, 4, none⟩ (.int .i64 ck)) ⟨B + 1 + 1, 5, none⟩ (.string ⟨key.toArray⟩)) ⟨B + 1 + 1, 6, none⟩ (.string ⟨val.toArray⟩)).heap[B + 1 + 1]? = _ from s5)
      have ho9 : Only (fun _ => False) w (World.setCell (World.setCell (World.setCell (World.setCell (World.setCell (World.setCell w1 ⟨B + 1 + 1, 1, none⟩ (.int .i64 node)) ⟨B + 1 + 1, 2, none⟩ (.int .i64 sess)) ⟨B + 1 + 1, 3, none⟩ (.int .i64 req)) ⟨B + 1 + 1, 4, none⟩ (.int .i64 ck)) ⟨B + 1 + 1, 5, none⟩ (.string ⟨key.toArray⟩)) ⟨B + 1 + 1, 6, none⟩ (.string ⟨val.toArray⟩)) := by
        have hx := HO.out
        have hy := HB.out
        exact ((((((hx).setCell (p := ⟨B + 1 + 1, 1, none⟩) (fun h => absurd h (by dsimp only; omega)) (.int .i64 node)).setCell (p := ⟨B + 1 + 1, 2, none⟩) (fun h => absurd h (by dsimp only; omega)) (.int .i64 sess)).setCell (p := ⟨B + 1 + 1, 3, none⟩) (fun h => absurd h (by dsimp only; omega)) (.int .i64 req)).setCell (p := ⟨B + 1 + 1, 4, none⟩) (fun h => absurd h (by dsimp only; omega)) (.int .i64 ck)).setCell (p := ⟨B + 1 + 1, 5, none⟩) (fun h => absurd h (by dsimp only; omega)) (.string ⟨key.toArray⟩)).setCell (p := ⟨B + 1 + 1, 6, none⟩) (fun h => absurd h (by dsimp only; omega)) (.string ⟨val.toArray⟩)
      have HR9 := Lib.hid (ownsRow_only K1.out (show Only (fun c => c = B + 1 + 1) w1 (World.setCell (World.setCell (World.setCell (World.setCell (World.setCell (World.setCell w1 ⟨B + 1 + 1, 1, none⟩ (.int .i64 node)) ⟨B + 1 + 1, 2, none⟩ (.int .i64 sess)) ⟨B + 1 + 1, 3, none⟩ (.int .i64 req)) ⟨B + 1 + 1, 4, none⟩ (.int .i64 ck)) ⟨B + 1 + 1, 5, none⟩ (.string ⟨key.toArray⟩)) ⟨B + 1 + 1, 6, none⟩ (.string ⟨val.toArray⟩)) from (Only.setCell (Only.setCell (Only.setCell (Only.setCell (Only.setCell (Only.setCell (Only.refl (fun c => c = B + 1 + 1) w1) (p := ⟨B + 1 + 1, 1, none⟩) (fun _ => rfl) _) (p := ⟨B + 1 + 1, 2, none⟩) (fun _ => rfl) _) (p := ⟨B + 1 + 1, 3, none⟩) (fun _ => rfl) _) (p := ⟨B + 1 + 1, 4, none⟩) (fun _ => rfl) _) (p := ⟨B + 1 + 1, 5, none⟩) (fun _ => rfl) _) (p := ⟨B + 1 + 1, 6, none⟩) (fun _ => rfl) _)) (fun c hc h => by simp [Value.ownBlock] at hc; omega))
      have hz9 : w1.heap.size = w1.heap.size := rfl
      clear d1 d2 d3 d4 d5 d6 f1 f2 f3 f4 f5 f6 s0 s1 s2 s3 s4 s5 c0 c1 c2 c3 c4 c5 c6
      generalize (World.setCell (World.setCell (World.setCell (World.setCell (World.setCell (World.setCell w1 ⟨B + 1 + 1, 1, none⟩ (.int .i64 node)) ⟨B + 1 + 1, 2, none⟩ (.int .i64 sess)) ⟨B + 1 + 1, 3, none⟩ (.int .i64 req)) ⟨B + 1 + 1, 4, none⟩ (.int .i64 ck)) ⟨B + 1 + 1, 5, none⟩ (.string ⟨key.toArray⟩)) ⟨B + 1 + 1, 6, none⟩ (.string ⟨val.toArray⟩)) = w9 at *
      go_step
      refine wpl_load27 rfl _ rfl _ rfl (b := B + 1 + 1) rfl (res_own HS9.out) ?_
      refine wpl_store_row rfl rfl 27 _ _ rfl 0 27 11 (B + 1) 1 1 0 zer.toList HR9.out (by decide) _ rfl rfl (.agg #[.int .i64 1, .int .i64 node, .int .i64 sess, .int .i64 req, .int .i64 ck, .string ⟨key.toArray⟩, .string ⟨val.toArray⟩, .int .i64 0, .int .i64 0, .slice none 0 0, .int .i64 0]) [.int .i64 1, .int .i64 node, .int .i64 sess, .int .i64 req, .int .i64 ck, .string ⟨key.toArray⟩, .string ⟨val.toArray⟩, .int .i64 0, .int .i64 0, .slice none 0 0, .int .i64 0] rfl rfl rfl (by kernel_rfl) (by simp [Value.oneCell', Str]) ?_
      intro ob HO1
      have ho5 := ho9.setBlk (b := B + 1) (fun h => absurd h (by have := HB.out; omega)) ob
      have HO2 := Lib.hid HO1
      clear HO1 HR9 HS9
      generalize setBlk w9 (B + 1) ob = w5 at *
      go_wp2_with fail
      exact bodyPost_ret (ret12 (b := B + 1) rfl HO2.out) rfl ⟨ho5, by rw [hon.out]; exact ⟨.slice none 0 0, rfl, Row1.nil _⟩⟩
  by_cases k2 : kind = 2
  · subst k2
    have hon := Lib.hid (show onlyS ⟨2, node, sess, req, ck, key, val, at_, n, keep, tear⟩ = ⟨2, 0, 0, 0, 0, [], [], at_, 0, [], 0⟩ from rfl)
    have c0 := cell_of_blk K0.out 0
    have c7 := cell_of_blk K0.out 7
    have d7 := cell_of_blk K2.out 7
    have f7 := free_of_blk K2.out 7
    simp only [List.getElem?_toArray, List.getElem?_cons_zero, List.getElem?_cons_succ] at c0 c7 d7
    as_aux_lemma =>
      go_upto_region 20 with fail
      have s0 := blk_setCell_same (i := 7) (v := .int .i64 at_) K2.out
      simp only [List.setIfInBounds_toArray, List.set_cons_succ, List.set_cons_zero] at s0
      have HS9 := Lib.hid (show (World.setCell w1 ⟨B + 1 + 1, 7, none⟩ (.int .i64 at_)).heap[B + 1 + 1]? = _ from s0)
      have ho9 : Only (fun _ => False) w (World.setCell w1 ⟨B + 1 + 1, 7, none⟩ (.int .i64 at_)) := by
        have hx := HO.out
        have hy := HB.out
        exact (hx).setCell (p := ⟨B + 1 + 1, 7, none⟩) (fun h => absurd h (by dsimp only; omega)) (.int .i64 at_)
      have HR9 := Lib.hid (ownsRow_only K1.out (show Only (fun c => c = B + 1 + 1) w1 (World.setCell w1 ⟨B + 1 + 1, 7, none⟩ (.int .i64 at_)) from (Only.setCell (Only.refl (fun c => c = B + 1 + 1) w1) (p := ⟨B + 1 + 1, 7, none⟩) (fun _ => rfl) _)) (fun c hc h => by simp [Value.ownBlock] at hc; omega))
      have hz9 : w1.heap.size = w1.heap.size := rfl
      clear d7 f7 s0 c0 c7
      generalize (World.setCell w1 ⟨B + 1 + 1, 7, none⟩ (.int .i64 at_)) = w9 at *
      go_step
      refine wpl_load27 rfl _ rfl _ rfl (b := B + 1 + 1) rfl (res_own HS9.out) ?_
      refine wpl_store_row rfl rfl 27 _ _ rfl 0 27 11 (B + 1) 1 1 0 zer.toList HR9.out (by decide) _ rfl rfl (.agg #[.int .i64 2, .int .i64 0, .int .i64 0, .int .i64 0, .int .i64 0, .string ⟨#[]⟩, .string ⟨#[]⟩, .int .i64 at_, .int .i64 0, .slice none 0 0, .int .i64 0]) [.int .i64 2, .int .i64 0, .int .i64 0, .int .i64 0, .int .i64 0, .string ⟨#[]⟩, .string ⟨#[]⟩, .int .i64 at_, .int .i64 0, .slice none 0 0, .int .i64 0] rfl rfl rfl (by kernel_rfl) (by simp [Value.oneCell', Str]) ?_
      intro ob HO1
      have ho5 := ho9.setBlk (b := B + 1) (fun h => absurd h (by have := HB.out; omega)) ob
      have HO2 := Lib.hid HO1
      clear HO1 HR9 HS9
      generalize setBlk w9 (B + 1) ob = w5 at *
      go_wp2_with fail
      exact bodyPost_ret (ret12 (b := B + 1) rfl HO2.out) rfl ⟨ho5, by rw [hon.out]; exact ⟨.slice none 0 0, rfl, Row1.nil _⟩⟩
  by_cases k3 : kind = 3
  · subst k3
    have hon := Lib.hid (show onlyS ⟨3, node, sess, req, ck, key, val, at_, n, keep, tear⟩ = ⟨3, 0, 0, 0, 0, [], [], at_, 0, [], 0⟩ from rfl)
    have c0 := cell_of_blk K0.out 0
    have c7 := cell_of_blk K0.out 7
    have d7 := cell_of_blk K2.out 7
    have f7 := free_of_blk K2.out 7
    simp only [List.getElem?_toArray, List.getElem?_cons_zero, List.getElem?_cons_succ] at c0 c7 d7
    as_aux_lemma =>
      go_upto_region 20 with fail
      have s0 := blk_setCell_same (i := 7) (v := .int .i64 at_) K2.out
      simp only [List.setIfInBounds_toArray, List.set_cons_succ, List.set_cons_zero] at s0
      have HS9 := Lib.hid (show (World.setCell w1 ⟨B + 1 + 1, 7, none⟩ (.int .i64 at_)).heap[B + 1 + 1]? = _ from s0)
      have ho9 : Only (fun _ => False) w (World.setCell w1 ⟨B + 1 + 1, 7, none⟩ (.int .i64 at_)) := by
        have hx := HO.out
        have hy := HB.out
        exact (hx).setCell (p := ⟨B + 1 + 1, 7, none⟩) (fun h => absurd h (by dsimp only; omega)) (.int .i64 at_)
      have HR9 := Lib.hid (ownsRow_only K1.out (show Only (fun c => c = B + 1 + 1) w1 (World.setCell w1 ⟨B + 1 + 1, 7, none⟩ (.int .i64 at_)) from (Only.setCell (Only.refl (fun c => c = B + 1 + 1) w1) (p := ⟨B + 1 + 1, 7, none⟩) (fun _ => rfl) _)) (fun c hc h => by simp [Value.ownBlock] at hc; omega))
      have hz9 : w1.heap.size = w1.heap.size := rfl
      clear d7 f7 s0 c0 c7
      generalize (World.setCell w1 ⟨B + 1 + 1, 7, none⟩ (.int .i64 at_)) = w9 at *
      go_step
      refine wpl_load27 rfl _ rfl _ rfl (b := B + 1 + 1) rfl (res_own HS9.out) ?_
      refine wpl_store_row rfl rfl 27 _ _ rfl 0 27 11 (B + 1) 1 1 0 zer.toList HR9.out (by decide) _ rfl rfl (.agg #[.int .i64 3, .int .i64 0, .int .i64 0, .int .i64 0, .int .i64 0, .string ⟨#[]⟩, .string ⟨#[]⟩, .int .i64 at_, .int .i64 0, .slice none 0 0, .int .i64 0]) [.int .i64 3, .int .i64 0, .int .i64 0, .int .i64 0, .int .i64 0, .string ⟨#[]⟩, .string ⟨#[]⟩, .int .i64 at_, .int .i64 0, .slice none 0 0, .int .i64 0] rfl rfl rfl (by kernel_rfl) (by simp [Value.oneCell', Str]) ?_
      intro ob HO1
      have ho5 := ho9.setBlk (b := B + 1) (fun h => absurd h (by have := HB.out; omega)) ob
      have HO2 := Lib.hid HO1
      clear HO1 HR9 HS9
      generalize setBlk w9 (B + 1) ob = w5 at *
      go_wp2_with fail
      exact bodyPost_ret (ret12 (b := B + 1) rfl HO2.out) rfl ⟨ho5, by rw [hon.out]; exact ⟨.slice none 0 0, rfl, Row1.nil _⟩⟩
  by_cases k4 : kind = 4
  · subst k4
    have hon := Lib.hid (show onlyS ⟨4, node, sess, req, ck, key, val, at_, n, keep, tear⟩ = ⟨4, 0, 0, 0, 0, [], [], at_, 0, [], 0⟩ from rfl)
    have c0 := cell_of_blk K0.out 0
    have c7 := cell_of_blk K0.out 7
    have d7 := cell_of_blk K2.out 7
    have f7 := free_of_blk K2.out 7
    simp only [List.getElem?_toArray, List.getElem?_cons_zero, List.getElem?_cons_succ] at c0 c7 d7
    as_aux_lemma =>
      go_upto_region 20 with fail
      have s0 := blk_setCell_same (i := 7) (v := .int .i64 at_) K2.out
      simp only [List.setIfInBounds_toArray, List.set_cons_succ, List.set_cons_zero] at s0
      have HS9 := Lib.hid (show (World.setCell w1 ⟨B + 1 + 1, 7, none⟩ (.int .i64 at_)).heap[B + 1 + 1]? = _ from s0)
      have ho9 : Only (fun _ => False) w (World.setCell w1 ⟨B + 1 + 1, 7, none⟩ (.int .i64 at_)) := by
        have hx := HO.out
        have hy := HB.out
        exact (hx).setCell (p := ⟨B + 1 + 1, 7, none⟩) (fun h => absurd h (by dsimp only; omega)) (.int .i64 at_)
      have HR9 := Lib.hid (ownsRow_only K1.out (show Only (fun c => c = B + 1 + 1) w1 (World.setCell w1 ⟨B + 1 + 1, 7, none⟩ (.int .i64 at_)) from (Only.setCell (Only.refl (fun c => c = B + 1 + 1) w1) (p := ⟨B + 1 + 1, 7, none⟩) (fun _ => rfl) _)) (fun c hc h => by simp [Value.ownBlock] at hc; omega))
      have hz9 : w1.heap.size = w1.heap.size := rfl
      clear d7 f7 s0 c0 c7
      generalize (World.setCell w1 ⟨B + 1 + 1, 7, none⟩ (.int .i64 at_)) = w9 at *
      go_step
      refine wpl_load27 rfl _ rfl _ rfl (b := B + 1 + 1) rfl (res_own HS9.out) ?_
      refine wpl_store_row rfl rfl 27 _ _ rfl 0 27 11 (B + 1) 1 1 0 zer.toList HR9.out (by decide) _ rfl rfl (.agg #[.int .i64 4, .int .i64 0, .int .i64 0, .int .i64 0, .int .i64 0, .string ⟨#[]⟩, .string ⟨#[]⟩, .int .i64 at_, .int .i64 0, .slice none 0 0, .int .i64 0]) [.int .i64 4, .int .i64 0, .int .i64 0, .int .i64 0, .int .i64 0, .string ⟨#[]⟩, .string ⟨#[]⟩, .int .i64 at_, .int .i64 0, .slice none 0 0, .int .i64 0] rfl rfl rfl (by kernel_rfl) (by simp [Value.oneCell', Str]) ?_
      intro ob HO1
      have ho5 := ho9.setBlk (b := B + 1) (fun h => absurd h (by have := HB.out; omega)) ob
      have HO2 := Lib.hid HO1
      clear HO1 HR9 HS9
      generalize setBlk w9 (B + 1) ob = w5 at *
      go_wp2_with fail
      exact bodyPost_ret (ret12 (b := B + 1) rfl HO2.out) rfl ⟨ho5, by rw [hon.out]; exact ⟨.slice none 0 0, rfl, Row1.nil _⟩⟩
  by_cases k5 : kind = 5
  · subst k5
    have hon := Lib.hid (show onlyS ⟨5, node, sess, req, ck, key, val, at_, n, keep, tear⟩ = ⟨5, 0, 0, 0, 0, [], [], at_, 0, [], 0⟩ from rfl)
    have c0 := cell_of_blk K0.out 0
    have c7 := cell_of_blk K0.out 7
    have d7 := cell_of_blk K2.out 7
    have f7 := free_of_blk K2.out 7
    simp only [List.getElem?_toArray, List.getElem?_cons_zero, List.getElem?_cons_succ] at c0 c7 d7
    as_aux_lemma =>
      go_upto_region 20 with fail
      have s0 := blk_setCell_same (i := 7) (v := .int .i64 at_) K2.out
      simp only [List.setIfInBounds_toArray, List.set_cons_succ, List.set_cons_zero] at s0
      have HS9 := Lib.hid (show (World.setCell w1 ⟨B + 1 + 1, 7, none⟩ (.int .i64 at_)).heap[B + 1 + 1]? = _ from s0)
      have ho9 : Only (fun _ => False) w (World.setCell w1 ⟨B + 1 + 1, 7, none⟩ (.int .i64 at_)) := by
        have hx := HO.out
        have hy := HB.out
        exact (hx).setCell (p := ⟨B + 1 + 1, 7, none⟩) (fun h => absurd h (by dsimp only; omega)) (.int .i64 at_)
      have HR9 := Lib.hid (ownsRow_only K1.out (show Only (fun c => c = B + 1 + 1) w1 (World.setCell w1 ⟨B + 1 + 1, 7, none⟩ (.int .i64 at_)) from (Only.setCell (Only.refl (fun c => c = B + 1 + 1) w1) (p := ⟨B + 1 + 1, 7, none⟩) (fun _ => rfl) _)) (fun c hc h => by simp [Value.ownBlock] at hc; omega))
      have hz9 : w1.heap.size = w1.heap.size := rfl
      clear d7 f7 s0 c0 c7
      generalize (World.setCell w1 ⟨B + 1 + 1, 7, none⟩ (.int .i64 at_)) = w9 at *
      go_step
      refine wpl_load27 rfl _ rfl _ rfl (b := B + 1 + 1) rfl (res_own HS9.out) ?_
      refine wpl_store_row rfl rfl 27 _ _ rfl 0 27 11 (B + 1) 1 1 0 zer.toList HR9.out (by decide) _ rfl rfl (.agg #[.int .i64 5, .int .i64 0, .int .i64 0, .int .i64 0, .int .i64 0, .string ⟨#[]⟩, .string ⟨#[]⟩, .int .i64 at_, .int .i64 0, .slice none 0 0, .int .i64 0]) [.int .i64 5, .int .i64 0, .int .i64 0, .int .i64 0, .int .i64 0, .string ⟨#[]⟩, .string ⟨#[]⟩, .int .i64 at_, .int .i64 0, .slice none 0 0, .int .i64 0] rfl rfl rfl (by kernel_rfl) (by simp [Value.oneCell', Str]) ?_
      intro ob HO1
      have ho5 := ho9.setBlk (b := B + 1) (fun h => absurd h (by have := HB.out; omega)) ob
      have HO2 := Lib.hid HO1
      clear HO1 HR9 HS9
      generalize setBlk w9 (B + 1) ob = w5 at *
      go_wp2_with fail
      exact bodyPost_ret (ret12 (b := B + 1) rfl HO2.out) rfl ⟨ho5, by rw [hon.out]; exact ⟨.slice none 0 0, rfl, Row1.nil _⟩⟩
  by_cases k7 : kind = 7
  · subst k7
    have hon := Lib.hid (show onlyS ⟨7, node, sess, req, ck, key, val, at_, n, keep, tear⟩ = ⟨7, node, 0, 0, 0, [], [], 0, n, [], 0⟩ from rfl)
    have c0 := cell_of_blk K0.out 0
    have c1 := cell_of_blk K0.out 1
    have c8 := cell_of_blk K0.out 8
    have d1 := cell_of_blk K2.out 1
    have d8 := cell_of_blk K2.out 8
    have f1 := free_of_blk K2.out 1
    have f8 := free_of_blk K2.out 8
    simp only [List.getElem?_toArray, List.getElem?_cons_zero, List.getElem?_cons_succ] at c0 c1 c8 d1 d8
    as_aux_lemma =>
      go_upto_region 20 with fail
      have s0 := blk_setCell_same (i := 1) (v := .int .i64 node) K2.out
      have s1 := blk_setCell_same (i := 8) (v := .int .i64 n) s0
      simp only [List.setIfInBounds_toArray, List.set_cons_succ, List.set_cons_zero] at s1
      have HS9 := Lib.hid (show (World.setCell (World.setCell w1 ⟨B + 1 + 1, 1, none⟩ (.int .i64 node)) ⟨B + 1 + 1, 8, none⟩ (.int .i64 n)).heap[B + 1 + 1]? = _ from s1)
      have ho9 : Only (fun _ => False) w (World.setCell (World.setCell w1 ⟨B + 1 + 1, 1, none⟩ (.int .i64 node)) ⟨B + 1 + 1, 8, none⟩ (.int .i64 n)) := by
        have hx := HO.out
        have hy := HB.out
        exact ((hx).setCell (p := ⟨B + 1 + 1, 1, none⟩) (fun h => absurd h (by dsimp only; omega)) (.int .i64 node)).setCell (p := ⟨B + 1 + 1, 8, none⟩) (fun h => absurd h (by dsimp only; omega)) (.int .i64 n)
      have HR9 := Lib.hid (ownsRow_only K1.out (show Only (fun c => c = B + 1 + 1) w1 (World.setCell (World.setCell w1 ⟨B + 1 + 1, 1, none⟩ (.int .i64 node)) ⟨B + 1 + 1, 8, none⟩ (.int .i64 n)) from (Only.setCell (Only.setCell (Only.refl (fun c => c = B + 1 + 1) w1) (p := ⟨B + 1 + 1, 1, none⟩) (fun _ => rfl) _) (p := ⟨B + 1 + 1, 8, none⟩) (fun _ => rfl) _)) (fun c hc h => by simp [Value.ownBlock] at hc; omega))
      have hz9 : w1.heap.size = w1.heap.size := rfl
      clear d1 d8 f1 f8 s0 s1 c0 c1 c8
      generalize (World.setCell (World.setCell w1 ⟨B + 1 + 1, 1, none⟩ (.int .i64 node)) ⟨B + 1 + 1, 8, none⟩ (.int .i64 n)) = w9 at *
      go_step
      refine wpl_load27 rfl _ rfl _ rfl (b := B + 1 + 1) rfl (res_own HS9.out) ?_
      refine wpl_store_row rfl rfl 27 _ _ rfl 0 27 11 (B + 1) 1 1 0 zer.toList HR9.out (by decide) _ rfl rfl (.agg #[.int .i64 7, .int .i64 node, .int .i64 0, .int .i64 0, .int .i64 0, .string ⟨#[]⟩, .string ⟨#[]⟩, .int .i64 0, .int .i64 n, .slice none 0 0, .int .i64 0]) [.int .i64 7, .int .i64 node, .int .i64 0, .int .i64 0, .int .i64 0, .string ⟨#[]⟩, .string ⟨#[]⟩, .int .i64 0, .int .i64 n, .slice none 0 0, .int .i64 0] rfl rfl rfl (by kernel_rfl) (by simp [Value.oneCell', Str]) ?_
      intro ob HO1
      have ho5 := ho9.setBlk (b := B + 1) (fun h => absurd h (by have := HB.out; omega)) ob
      have HO2 := Lib.hid HO1
      clear HO1 HR9 HS9
      generalize setBlk w9 (B + 1) ob = w5 at *
      go_wp2_with fail
      exact bodyPost_ret (ret12 (b := B + 1) rfl HO2.out) rfl ⟨ho5, by rw [hon.out]; exact ⟨.slice none 0 0, rfl, Row1.nil _⟩⟩
  by_cases k9 : kind = 9
  · subst k9
    have hon := Lib.hid (show onlyS ⟨9, node, sess, req, ck, key, val, at_, n, keep, tear⟩ = ⟨9, node, 0, 0, 0, [], [], 0, n, keep, tear⟩ from rfl)
    have c0 := cell_of_blk K0.out 0
    have c1 := cell_of_blk K0.out 1
    have c8 := cell_of_blk K0.out 8
    have c9 := cell_of_blk K0.out 9
    have c10 := cell_of_blk K0.out 10
    have d1 := cell_of_blk K2.out 1
    have d8 := cell_of_blk K2.out 8
    have d10 := cell_of_blk K2.out 10
    have d9 := cell_of_blk K2.out 9
    have f1 := free_of_blk K2.out 1
    have f8 := free_of_blk K2.out 8
    have f10 := free_of_blk K2.out 10
    have f9 := free_of_blk K2.out 9
    simp only [List.getElem?_toArray, List.getElem?_cons_zero, List.getElem?_cons_succ] at c0 c1 c8 c9 c10 d1 d8 d10 d9
    as_aux_lemma =>
      go_upto_region 20 with fail
      have s0 := blk_setCell_same (i := 1) (v := .int .i64 node) K2.out
      have s1 := blk_setCell_same (i := 8) (v := .int .i64 n) s0
      have s2 := blk_setCell_same (i := 10) (v := .int .i64 tear) s1
      have s3 := blk_setCell_same (i := 9) (v := .slice a N cap) s2
      simp only [List.setIfInBounds_toArray, List.set_cons_succ, List.set_cons_zero] at s3
      have HS9 := Lib.hid (show (World.setCell (World.setCell (World.setCell (World.setCell w1 ⟨B + 1 + 1, 1, none⟩ (.int .i64 node)) ⟨B + 1 + 1, 8, none⟩ (.int .i64 n)) ⟨B + 1 + 1, 10, none⟩ (.int .i64 tear)) ⟨B + 1 + 1, 9, none⟩ (.slice a N cap)).heap[B + 1 + 1]? = _ from s3)
      have ho9 : Only (fun _ => False) w (World.setCell (World.setCell (World.setCell (World.setCell w1 ⟨B + 1 + 1, 1, none⟩ (.int .i64 node)) ⟨B + 1 + 1, 8, none⟩ (.int .i64 n)) ⟨B + 1 + 1, 10, none⟩ (.int .i64 tear)) ⟨B + 1 + 1, 9, none⟩ (.slice a N cap)) := by
        have hx := HO.out
        have hy := HB.out
        exact ((((hx).setCell (p := ⟨B + 1 + 1, 1, none⟩) (fun h => absurd h (by dsimp only; omega)) (.int .i64 node)).setCell (p := ⟨B + 1 + 1, 8, none⟩) (fun h => absurd h (by dsimp only; omega)) (.int .i64 n)).setCell (p := ⟨B + 1 + 1, 10, none⟩) (fun h => absurd h (by dsimp only; omega)) (.int .i64 tear)).setCell (p := ⟨B + 1 + 1, 9, none⟩) (fun h => absurd h (by dsimp only; omega)) (.slice a N cap)
      have HR9 := Lib.hid (ownsRow_only K1.out (show Only (fun c => c = B + 1 + 1) w1 (World.setCell (World.setCell (World.setCell (World.setCell w1 ⟨B + 1 + 1, 1, none⟩ (.int .i64 node)) ⟨B + 1 + 1, 8, none⟩ (.int .i64 n)) ⟨B + 1 + 1, 10, none⟩ (.int .i64 tear)) ⟨B + 1 + 1, 9, none⟩ (.slice a N cap)) from (Only.setCell (Only.setCell (Only.setCell (Only.setCell (Only.refl (fun c => c = B + 1 + 1) w1) (p := ⟨B + 1 + 1, 1, none⟩) (fun _ => rfl) _) (p := ⟨B + 1 + 1, 8, none⟩) (fun _ => rfl) _) (p := ⟨B + 1 + 1, 10, none⟩) (fun _ => rfl) _) (p := ⟨B + 1 + 1, 9, none⟩) (fun _ => rfl) _)) (fun c hc h => by simp [Value.ownBlock] at hc; omega))
      have hz9 : w1.heap.size = w1.heap.size := rfl
      clear d1 d8 d10 d9 f1 f8 f10 f9 s0 s1 s2 s3 c0 c1 c8 c9 c10
      generalize (World.setCell (World.setCell (World.setCell (World.setCell w1 ⟨B + 1 + 1, 1, none⟩ (.int .i64 node)) ⟨B + 1 + 1, 8, none⟩ (.int .i64 n)) ⟨B + 1 + 1, 10, none⟩ (.int .i64 tear)) ⟨B + 1 + 1, 9, none⟩ (.slice a N cap)) = w9 at *
      go_step
      refine wpl_load27 rfl _ rfl _ rfl (b := B + 1 + 1) rfl (res_own HS9.out) ?_
      refine wpl_store_row rfl rfl 27 _ _ rfl 0 27 11 (B + 1) 1 1 0 zer.toList HR9.out (by decide) _ rfl rfl (.agg #[.int .i64 9, .int .i64 node, .int .i64 0, .int .i64 0, .int .i64 0, .string ⟨#[]⟩, .string ⟨#[]⟩, .int .i64 0, .int .i64 n, .slice a N cap, .int .i64 tear]) [.int .i64 9, .int .i64 node, .int .i64 0, .int .i64 0, .int .i64 0, .string ⟨#[]⟩, .string ⟨#[]⟩, .int .i64 0, .int .i64 n, .slice a N cap, .int .i64 tear] rfl rfl rfl (by kernel_rfl) (by simp [Value.oneCell', Str]) ?_
      intro ob HO1
      have ho5 := ho9.setBlk (b := B + 1) (fun h => absurd h (by have := HB.out; omega)) ob
      have hrow := HR.out.new ho5
      have HO2 := Lib.hid HO1
      clear HO1 HR9 HS9
      generalize setBlk w9 (B + 1) ob = w5 at *
      go_wp2_with fail
      exact bodyPost_ret (ret12 (b := B + 1) rfl HO2.out) rfl ⟨ho5, by rw [hon.out]; exact ⟨.slice a N cap, rfl, hrow⟩⟩
  have hon := Lib.hid (show onlyS ⟨kind, node, sess, req, ck, key, val, at_, n, keep, tear⟩ = ⟨kind, node, 0, 0, 0, [], [], 0, 0, [], 0⟩ by
    unfold onlyS
    simp only
    rw [if_neg k1, if_neg (by omega), if_neg k7, if_neg k9])
  have g1 : (kind == 1) = false := by simpa using k1
  have g2 : (kind == 2) = false := by simpa using k2
  have g3 : (kind == 3) = false := by simpa using k3
  have g4 : (kind == 4) = false := by simpa using k4
  have g5 : (kind == 5) = false := by simpa using k5
  have g7 : (kind == 7) = false := by simpa using k7
  have g9 : (kind == 9) = false := by simpa using k9
  clear k1 k2 k3 k4 k5 k7 k9
  have c0 := cell_of_blk K0.out 0
  have c1 := cell_of_blk K0.out 1
  have d1 := cell_of_blk K2.out 1
  have f1 := free_of_blk K2.out 1
  simp only [List.getElem?_toArray, List.getElem?_cons_zero, List.getElem?_cons_succ] at c0 c1 d1
  as_aux_lemma =>
    go_upto_region 20 with fail
    have s0 := blk_setCell_same (i := 1) (v := .int .i64 node) K2.out
    simp only [List.setIfInBounds_toArray, List.set_cons_succ, List.set_cons_zero] at s0
    have HS9 := Lib.hid (show (World.setCell w1 ⟨B + 1 + 1, 1, none⟩ (.int .i64 node)).heap[B + 1 + 1]? = _ from s0)
    have ho9 : Only (fun _ => False) w (World.setCell w1 ⟨B + 1 + 1, 1, none⟩ (.int .i64 node)) := by
      have hx := HO.out
      have hy := HB.out
      exact (hx).setCell (p := ⟨B + 1 + 1, 1, none⟩) (fun h => absurd h (by dsimp only; omega)) (.int .i64 node)
    have HR9 := Lib.hid (ownsRow_only K1.out (show Only (fun c => c = B + 1 + 1) w1 (World.setCell w1 ⟨B + 1 + 1, 1, none⟩ (.int .i64 node)) from (Only.setCell (Only.refl (fun c => c = B + 1 + 1) w1) (p := ⟨B + 1 + 1, 1, none⟩) (fun _ => rfl) _)) (fun c hc h => by simp [Value.ownBlock] at hc; omega))
    have hz9 : w1.heap.size = w1.heap.size := rfl
    clear d1 f1 s0 c0 c1
    generalize (World.setCell w1 ⟨B + 1 + 1, 1, none⟩ (.int .i64 node)) = w9 at *
    go_step
    refine wpl_load27 rfl _ rfl _ rfl (b := B + 1 + 1) rfl (res_own HS9.out) ?_
    refine wpl_store_row rfl rfl 27 _ _ rfl 0 27 11 (B + 1) 1 1 0 zer.toList HR9.out (by decide) _ rfl rfl (.agg #[.int .i64 kind, .int .i64 node, .int .i64 0, .int .i64 0, .int .i64 0, .string ⟨#[]⟩, .string ⟨#[]⟩, .int .i64 0, .int .i64 0, .slice none 0 0, .int .i64 0]) [.int .i64 kind, .int .i64 node, .int .i64 0, .int .i64 0, .int .i64 0, .string ⟨#[]⟩, .string ⟨#[]⟩, .int .i64 0, .int .i64 0, .slice none 0 0, .int .i64 0] rfl rfl rfl (by kernel_rfl) (by simp [Value.oneCell', Str]) ?_
    intro ob HO1
    have ho5 := ho9.setBlk (b := B + 1) (fun h => absurd h (by have := HB.out; omega)) ob
    have HO2 := Lib.hid HO1
    clear HO1 HR9 HS9
    generalize setBlk w9 (B + 1) ob = w5 at *
    go_wp2_with fail
    exact bodyPost_ret (ret12 (b := B + 1) rfl HO2.out) rfl ⟨ho5, by rw [hon.out]; exact ⟨.slice none 0 0, rfl, Row1.nil _⟩⟩
end Go.Proofs.YtcocmljollnpdaaDoor
