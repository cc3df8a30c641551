/- due: the list's Pop and Push. -/
import Derived.Test.YtgabgdeakeliaaaDu1
namespace Go.Proofs.Ytgabgdeakeliaaa
open Go.RowKit Go.Dm

theorem row_drop {w : World} {ab cap n : Nat} {L : List Ent} {e : Ent} (h : w.ownsRow 0 32 4 (.slice (some ⟨ab, 0, none⟩) (n + 1) cap) (n + 1) (flat (L ++ [e]))) (hn : L.length = n) :
    w.ownsRow 0 32 4 (.slice (some ⟨ab, 0, none⟩) n cap) n (flat L) := by
  obtain ⟨h1, ⟨h2, _⟩ | ⟨g', cap', cur, hv, hb, hh, h3, h4, h5, h6⟩⟩ := h
  · cases h2
  · injection hv with hv1 hv2 hv3
    injection hv1 with hv1
    injection hv1 with hv1
    subst hv1; subst hv3
    refine ⟨by rw [flat_length, hn], .inr ⟨ab, cap, cur, rfl, hb, hh, by omega, h4, h5, ?_⟩⟩
    have : cur.toList.take (n * 4) = (cur.toList.take ((n + 1) * 4)).take (n * 4) := by rw [List.take_take]; congr 1; omega
    rw [this, h6]
    have e1 : flat (L ++ [e]) = flat L ++ e.cells := by simp [flat]
    rw [e1, List.take_append_of_le_length (by rw [flat_length, hn]; exact Nat.le_refl _), List.take_of_length_le (by rw [flat_length, hn]; exact Nat.le_refl _)]

set_option maxHeartbeats 8000000 in
set_option maxRecDepth 100000 in
theorem pop_any {w : World} {lb mb : Nat} {v : Value} {L : List Ent} {e : Ent} {m : List (Nm × Value)} (h : LRep w lb mb v (L ++ [e]) m) (hn : L.length ≤ 1000) :
    Calls Try.prog 40 #[.pointer (some ⟨lb, 0, none⟩)] w fun r w' => r = .returned (.iface 32 e.val) ∧
      ∃ v', v'.ownBlock = v.ownBlock ∧ LRep w' lb mb v' L (adel m e.nm) ∧ Only (fun c => c = mb ∨ c = lb) w w' := by
  obtain ⟨ab, cap, cur, rfl, hab, hcap, hmx, _⟩ := row_some h.row (by simp)
  have hi : (L ++ [e])[L.length]? = some e := by simp
  have c0 := cell_of_blk h.head 0
  have c1 := cell_of_blk h.head 1
  have f0 := free_of_blk h.head 0
  obtain ⟨i0, i1, i2, i3⟩ := row_cells h.row hi
  have hrow := h.row
  have hmap := h.map
  have hhead := h.head
  have hne : ab ≠ lb := ne_of_elem hab hhead (by decide)
  have hne2 : ab ≠ mb := hmap.ne hab
  have hne3 : lb ≠ mb := hmap.ne hhead
  have zlb := blk_lt hhead
  have zab := blk_lt hab
  have zmb := hmap.lt
  have hlen : (L ++ [e]).length = L.length + 1 := by simp
  rw [hlen] at hrow hhead c0 c1 hcap
  generalize hn0 : L.length = n at *
  simp at c0 c1
  have Hn := Lib.hid hn0
  unfold maxLen at hmx
  clear hn0 hi h hlen
  have q0 : (n : Int) + 1 - 1 = (n : Int) := by omega
  have q1 : ((n : Int) + 1 - 1).toNat = n := by omega
  have l0 := later_cell (S := fun _ => False) c0 (by simp)
  have l1 := later_cell (S := fun _ => False) i0 (by simp)
  have l2 := later_cell (S := fun _ => False) i1 (by simp)
  have l3 := later_cell (S := fun _ => False) i2 (by simp)
  have l4 := later_cell (S := fun _ => False) i3 (by simp)
  go_enter Try.func40, Try.ntmps40
  go_wp2_with fail
  refine wp_region_segL [0,0,0,1,0,0,0,1,1,0,0,1,2,2] (fun _ => False) (by kernel_rfl) (by kernel_rfl) ?_
  refine seg_free rfl ?_
  go_big_quiet_step (fail)
  refine wpQuiet_nil ?_
  refine seg_free rfl ?_
  go_big_quiet_step (fail)
  refine wpQuiet_nil ?_
  refine seg_free rfl ?_
  go_big_quiet_step (fail)
  refine wpQuiet_nil ?_
  refine seg_reads 1 (by decide) (by decide) ?_
  simp only [List.take_succ_cons, List.take_zero, List.drop_succ_cons, List.drop_zero]
  iterate 1 (go_big_quiet_step (fail))
  refine wpQuiet_nil ?_
  refine seg_free rfl ?_
  go_big_quiet_step (fail)
  refine wpQuiet_nil ?_
  refine seg_free rfl ?_
  go_big_quiet_step (fail)
  refine wpQuiet_nil ?_
  refine seg_free rfl ?_
  go_big_quiet_step (fail)
  refine wpQuiet_nil ?_
  refine seg_reads 2 (by decide) (by decide) ?_
  simp only [List.take_succ_cons, List.take_zero, List.drop_succ_cons, List.drop_zero]
  iterate 2 (go_big_quiet_step (fail))
  refine wpQuiet_nil ?_
  refine seg_free rfl ?_
  go_big_quiet_step (fail)
  refine wpQuiet_nil ?_
  refine seg_free rfl ?_
  go_big_quiet_step (fail)
  refine wpQuiet_nil ?_
  refine seg_reads 1 (by decide) (by decide) ?_
  simp only [List.take_succ_cons, List.take_zero, List.drop_succ_cons, List.drop_zero]
  iterate 1 (go_big_quiet_step (fail))
  refine wpQuiet_nil ?_
  refine seg_eff rfl ?_
  go_wp2_with fail
  refine strict_intro ⟨⟨⟨_, (Only.refl _ _).drew.alloc _⟩, rfl⟩, ?_⟩
  refine seg_list' _ _ _ _ (by kernel_rfl) ?_
  go_wp2_with fail
  refine strict_then ?_
  go_wp2_with fail
  clear l0 l1 l2 l3 l4 i0 i1 i2 i3
  refine wp_region_segR [1,1,1,1,1,1,1,1,1,1,1,1,1,1,2] (by kernel_rfl) (by kernel_rfl) ?_
  refine seg_reads 14 (by decide) (by decide) ?_
  simp only [List.take_succ_cons, List.take_zero, List.drop_succ_cons, List.drop_zero]
  iterate 14 (go_big_quiet_step (fail))
  refine wpQuiet_nil ?_
  refine seg_list' _ _ _ _ (by kernel_rfl) ?_
  go_wp2_with fail
  refine strict_then ?_
  go_wp2_with fail
  refine wp_region_segR [1,1,1,1,1,1,1,1,1,2] (by kernel_rfl) (by kernel_rfl) ?_
  refine seg_reads 9 (by decide) (by decide) ?_
  simp only [List.take_succ_cons, List.take_zero, List.drop_succ_cons, List.drop_zero]
  iterate 9 (go_big_quiet_step (fail))
  refine wpQuiet_nil ?_
  refine seg_list' _ _ _ _ (by kernel_rfl) ?_
  refine wpl_delete rfl rfl 48 54 _ _ rfl nmE 3 und48 mb m (hmap.only (S := fun c => c = lb) ?ho ?hn) rfl e.nm rfl trivial ?_
  case ho =>
    repeat' (first | exact Only.refl _ _ | refine Only.drewN ?_ _ | refine Only.drew ?_ | refine Only.alloc ?_ _ | refine Only.setCell ?_ (fun _ => by simp) _ | refine Only.setBlk ?_ (fun _ => by simp) _)
  case hn => exact fun e => hne3 e.symm
  intro ob hmap1
  refine wpList_nil (strict_then ?_)
  go_wp2_with fail
  go_ret
  have e1 : (w.setCell ⟨lb, 0, none⟩ (.slice (some ⟨ab, 0, none⟩) n cap)).heap[lb]? = some (.cells #[.slice (some ⟨ab, 0, none⟩) n cap, .map (some mb)] 50 (0, 0)) := blk_setCell_same hhead
  refine ⟨rfl, .slice (some ⟨ab, 0, none⟩) n cap, rfl, ⟨?_, ?_, hmap1⟩, ?_⟩
  · rw [setBlk_other (Ne.symm hne3)]
    exact blk_alloc_old e1
  · rw [Hn.out]
    refine ownsRow_only (S := fun c => c = mb ∨ c = lb) (row_drop hrow Hn.out) ?_ (by simp [Value.ownBlock, hne, hne2])
    repeat' (first | exact Only.refl _ _ | refine Only.drewN ?_ _ | refine Only.drew ?_ | refine Only.alloc ?_ _ | refine Only.setCell ?_ (fun _ => by simp) _ | refine Only.setBlk ?_ (fun _ => by simp) _)
  · repeat' (first | exact Only.refl _ _ | refine Only.drewN ?_ _ | refine Only.drew ?_ | refine Only.alloc ?_ _ | refine Only.setCell ?_ (fun _ => by simp) _ | refine Only.setBlk ?_ (fun _ => by simp) _)

theorem info32 : (Try.prog.info? 32).map (fun i => (i.zero, i.size, i.bytes)) = some (some (.agg #[.int .i64 0, .int .i64 0, .int .u64 0, .int .i64 0]), 4, 32) := by kernel_rfl
theorem und22 : Try.prog.underlying 22 = some (.slice 32) := by kernel_rfl
@[go_sem] theorem ta32 (x : Value) (w : World) : (Instr.typeAssert (.iface 32 x) 20 32 true).run Try.prog w = .ok (.tuple #[x, .bool true]) w := by kernel_rfl
theorem flat_snoc (L : List Ent) (e : Ent) : flat L ++ e.cells = flat (L ++ [e]) := by simp [flat]

set_option maxHeartbeats 8000000 in
set_option maxRecDepth 100000 in
theorem push_any {w : World} {lb mb : Nat} {v : Value} {L : List Ent} (e : Ent) {m : List (Nm × Value)} (h : LRep w lb mb v L m) (hn : L.length ≤ 1000) :
    Calls Try.prog 41 #[.pointer (some ⟨lb, 0, none⟩), .iface 32 e.val] w fun r w' => r = .returned (.tuple #[]) ∧
      ∃ v', (v'.ownBlock = v.ownBlock ∨ ∃ k, v'.ownBlock = some k ∧ w.heap.size ≤ k) ∧ LRep w' lb mb v' (L ++ [e]) (aput m e.nm (.int .i64 (L.length : Int))) ∧ Only (fun c => c = mb ∨ c = lb ∨ some c = v.ownBlock) w w' := by
  obtain ⟨ad, cap, hv⟩ : ∃ ad cap, v = .slice ad L.length cap := by
    rcases h.row.2 with ⟨h1, h0⟩ | ⟨g, cap, cur, hv, _⟩
    · exact ⟨none, 0, by rw [h0]; exact h1⟩
    · exact ⟨_, _, hv⟩
  subst hv
  have c0 := cell_of_blk h.head 0
  have c1 := cell_of_blk h.head 1
  have f0 := free_of_blk h.head 0
  have hrow := h.row
  have hmap := h.map
  have hhead := h.head
  have hne3 : lb ≠ mb := hmap.ne hhead
  have hne4 : mb ≠ lb := Ne.symm hne3
  have zlb := blk_lt hhead
  have zmb := hmap.lt
  obtain ⟨i0, hinf, hz0, hz1, hz2⟩ := info_parts info32
  simp at c0 c1
  have hl : ∀ k, (Value.slice ad L.length cap).ownBlock = some k → k ≠ lb ∧ k ≠ mb ∧ k < w.heap.size := by
    intro k hk
    rcases hrow.2 with ⟨h1, _⟩ | ⟨g, cap', cur, hv, _, hh, _⟩
    · rw [h1] at hk; cases hk
    · rw [hv] at hk
      have : g = k := by simpa [Value.ownBlock] using hk
      subst this
      exact ⟨ne_of_elem hh hhead (by decide), hmap.ne hh, blk_lt hh⟩
  have Hl := Lib.hid hl
  have Hinf := Lib.hid hinf
  have Hz0 := Lib.hid hz0
  have Hz1 := Lib.hid hz1
  have Hz2 := Lib.hid hz2
  generalize hn0 : L.length = n at *
  have Hn := Lib.hid hn0
  clear hn0 h hl hinf hz0 hz1 hz2
  unfold Ent.val
  go_enter Try.func41, Try.ntmps41
  go_wp2_with fail
  refine wp_region_segR [1,1,1,1,1,1,1,1,1,1,1,1,1,1,2] (by kernel_rfl) (by kernel_rfl) ?_
  refine seg_reads 14 (by decide) (by decide) ?_
  simp only [List.take_succ_cons, List.take_zero, List.drop_succ_cons, List.drop_zero]
  iterate 14 (go_big_quiet_step (fail))
  refine wpQuiet_nil ?_
  refine seg_list' _ _ _ _ (by kernel_rfl) ?_
  refine wpl_mapUpdate rfl rfl 48 _ _ _ rfl nmE 3 und48 mb m (hmap.only (S := fun _ => False) ?ho (fun h => h)) rfl e.nm rfl trivial (.int .i64 (n : Int)) rfl ?_
  case ho =>
    repeat' (first | exact Only.refl _ _ | refine Only.drewN ?_ _ | refine Only.drew ?_ | refine Only.alloc ?_ _ | refine Only.setCell ?_ (fun _ => by simp) _ | refine Only.setBlk ?_ (fun _ => by simp) _)
  intro ob hmap1
  refine wpList_nil (strict_then ?_)
  have ho1 : Only (fun c => c = mb) w (setBlk ((w.alloc (.cells #[.int .i64 e.at_, .int .i64 e.kind, .int .u64 e.num, .int .i64 e.node] 32)).drew) mb ob) := by
    repeat' (first | exact Only.refl _ _ | refine Only.drewN ?_ _ | refine Only.drew ?_ | refine Only.alloc ?_ _ | refine Only.setCell ?_ (fun _ => by simp) _ | refine Only.setBlk ?_ (fun _ => by simp) _)
  have hs1 : (setBlk ((w.alloc (.cells #[.int .i64 e.at_, .int .i64 e.kind, .int .u64 e.num, .int .i64 e.node] 32)).drew) mb ob).heap[w.heap.size]? = some (.cells #[.int .i64 e.at_, .int .i64 e.kind, .int .u64 e.num, .int .i64 e.node] 32 (0, 0)) := by
    rw [setBlk_other (Nat.ne_of_lt zmb)]; exact blk_alloc_new
  generalize setBlk ((w.alloc (.cells #[.int .i64 e.at_, .int .i64 e.kind, .int .u64 e.num, .int .i64 e.node] 32)).drew) mb ob = w1 at *
  have hhead1 := ho1.blk hhead hne3
  have hrow1 := ownsRow_only hrow ho1 (fun k hk hb => (Hl.out k hk).2.1 hb)
  have z1 := ho1.size
  have d0 := cell_of_blk hhead1 0
  have n0 := cell_of_blk hs1 0
  have n1 := cell_of_blk hs1 1
  have n2 := cell_of_blk hs1 2
  have n3 := cell_of_blk hs1 3
  have zlb1 := blk_lt hhead1
  have f1 := free_of_blk hhead1 0
  simp at d0 n0 n1 n2 n3
  have l0 := later_cell (S := fun _ => False) d0 (by simp)
  have l1 := later_cell (S := fun _ => False) n0 (by simp)
  have l2 := later_cell (S := fun _ => False) n1 (by simp)
  have l3 := later_cell (S := fun _ => False) n2 (by simp)
  have l4 := later_cell (S := fun _ => False) n3 (by simp)
  clear c0 c1 f0 hrow hmap
  go_wp2_with fail
  refine wp_region_segL [0,0,0,0,1,1,2,2,2,2,2] (fun _ => False) (by kernel_rfl) (by kernel_rfl) ?_
  refine seg_free rfl ?_
  go_big_quiet_step (fail)
  refine wpQuiet_nil ?_
  refine seg_free rfl ?_
  go_big_quiet_step (fail)
  refine wpQuiet_nil ?_
  refine seg_free rfl ?_
  go_big_quiet_step (fail)
  refine wpQuiet_nil ?_
  refine seg_free rfl ?_
  go_big_quiet_step (fail)
  refine wpQuiet_nil ?_
  refine seg_reads 2 (by decide) (by decide) ?_
  simp only [List.take_succ_cons, List.take_zero, List.drop_succ_cons, List.drop_zero]
  iterate 2 (go_big_quiet_step (fail))
  refine wpQuiet_nil ?_
  refine seg_eff rfl ?_
  go_wp2_with fail
  refine strict_intro ⟨⟨⟨_, (Only.refl _ _).drew.alloc _⟩, rfl⟩, ?_⟩
  refine seg_list' _ _ _ _ (by kernel_rfl) ?_
  refine wpList_append_own_at _ rfl _ _ 22 rfl 0 32 i0 (.agg #[.int .i64 0, .int .i64 0, .int .u64 0, .int .i64 0]) 4 32 und22 Hinf.out Hz0.out Hz1.out Hz2.out rfl (by decide) (.slice ad n cap) n (flat L) rfl (hrow1.alloc _) ⟨w1.heap.size, 0, none⟩ 1 1 e.cells rfl rfl ?c1 ?c2 (by unfold maxLen; omega) (by omega) (Nat.zero_le _) ?_
  case c1 =>
    intro j u hj
    rw [add_none, Nat.zero_add]
    have hb : (w1.drew.alloc (.cells #[.int .i64 e.at_, .int .i64 e.kind, .int .u64 e.num, .int .i64 e.node] 32)).heap[w1.heap.size]? = _ := blk_alloc_new (w := w1.drew)
    exact (cell_of_blk hb j).trans (by simpa [Ent.cells] using hj)
  case c2 => simp [Ent.cells, Value.oneCell']
  intro v' w2 hown2 hgrow2 _ hloc2
  have ho2 : Only (fun c => c = mb ∨ some c = (Value.slice ad n cap).ownBlock) w w2 :=
    (ho1.mono fun _ _ h => .inl h).trans (((Only.refl (fun c => some c = (Value.slice ad n cap).ownBlock) w1).drew.alloc _).trans' (Only.of_grown hgrow2)) (fun _ _ h => .inr h)
  have hhead2 := ho2.blk hhead (fun h => h.elim hne3 (fun h => (Hl.out lb h.symm).1 rfl))
  obtain ⟨g2, cap2, rfl⟩ : ∃ g cap, v' = .slice (some ⟨g, 0, none⟩) (n + 1) cap := by
    rcases hown2.2 with ⟨_, h0⟩ | ⟨g, cap, cur, hv, _⟩
    · omega
    · exact ⟨g, cap, hv⟩
  have d2 := cell_of_blk hhead2 0
  have f2 := free_of_blk hhead2 0
  simp at d2
  go_wp2_with fail
  refine strict_intro ?_
  go_end0
  refine ⟨rfl, .slice (some ⟨g2, 0, none⟩) (n + 1) cap2, ?_, ⟨?_, ?_, ?_⟩, ?_⟩
  · rcases hloc2 with h | h
    · exact .inl h
    · exact .inr ⟨_, h, by simp; omega⟩
  · exact blk_setCell_same hhead2
  · have := hown2
    rw [flat_snoc] at this
    simp only [List.length_append, List.length_cons, List.length_nil, Hn.out]
    refine ownsRow_only (S := fun c => c = lb) this ?_ ?_
    · repeat' (first | exact Only.refl _ _ | refine Only.drewN ?_ _ | refine Only.drew ?_ | refine Only.alloc ?_ _ | refine Only.setCell ?_ (fun _ => by simp) _ | refine Only.setBlk ?_ (fun _ => by simp) _)
    · intro k hk hkl
      rcases hloc2 with h | h
      · rw [h] at hk; exact (Hl.out k hk).1 hkl
      · rw [h] at hk; injection hk with hk; simp at hk; omega
  · have h12 : Only (fun c => c = lb ∨ some c = (Value.slice ad n cap).ownBlock) w1 (w2.setCell ⟨lb, 0, none⟩ (.slice (some ⟨g2, 0, none⟩) (n + 1) cap2)) :=
      ((((Only.refl (fun c => some c = (Value.slice ad n cap).ownBlock) w1).drew.alloc _).trans' (Only.of_grown hgrow2)).mono fun _ _ h => .inr h).setCell (fun _ => .inl rfl) _
    exact hmap1.only h12 (fun h => h.elim hne4 (fun h => (Hl.out mb h.symm).2.1 rfl))
  · exact (ho2.mono fun _ _ h => h.elim .inl fun h => .inr (.inr h)).setCell (fun _ => .inr (.inl rfl)) _
end Go.Proofs.Ytgabgdeakeliaaa
