/- script: ScriptReads, walked. -/
import Derived.Test.YtcocmljollnpdaaDoorSc8
import Derived.Test.YtcocmljollnpdaaDoorSc11
import Derived.Test.YtcocmljollnpdaaDoorSc12
import Derived.Test.YtcocmljollnpdaaDoorSc13
import Derived.Deep.RegionWith
import Derived.Deep.Cut
namespace Go.Proofs.YtcocmljollnpdaaDoor
open Go Go.RowKit Go.Dm
set_option linter.unusedVariables false
set_option linter.unusedSimpArgs false

theorem hex_size (l : List UInt8) : l.length ≤ (hexL l).length := by
  unfold hexL
  split
  · rename_i h; rw [h]; simp
  · rw [flat_len]; omega
theorem bits_size (l : List Bool) : l.length ≤ (bitsL l).length := by
  unfold bitsL
  split
  · rename_i h; rw [h]; simp
  · rw [List.length_map]; omega
theorem word_size (t : List UInt8) (i : Nat) : ((sp 32 t).getD i []).length ≤ t.length := by
  rw [List.getD_eq_getElem?_getD]
  cases h : (sp 32 t)[i]? with
  | none => simp
  | some x => exact (sp_len 32 t).1 x (List.mem_of_getElem? h)
theorem step_size {t : List UInt8} {s : Stp} (h : stepL t = some s) : s.key.length ≤ t.length ∧ s.val.length ≤ t.length ∧ s.keep.length ≤ t.length := by
  unfold stepL stepW at h
  generalize hk : kindL stepsT ((sp 32 t).getD 0 []) = k at h
  split at h
  · cases h
  obtain ⟨ns, hns, h'⟩ := Option.bind_eq_some_iff.1 h
  clear h
  unfold stepN at h'
  split at h'
  · unfold callW at h'
    split at h'
    · rename_i a b ha hb
      split at h'
      · injection h' with h'; subst h'
        have e1 := word_size t 5
        have e2 := word_size t 6
        rw [← hex_unhex ha] at e1
        rw [← hex_unhex hb] at e2
        exact ⟨Nat.le_trans (hex_size a) e1, Nat.le_trans (hex_size b) e2, Nat.zero_le _⟩
      · cases h'
    · cases h'
  · split at h'
    · obtain ⟨l, hl, rfl⟩ := Option.map_eq_some_iff.1 h'
      have e1 := word_size t 4
      rw [← bits_unbits hl] at e1
      exact ⟨Nat.zero_le _, Nat.zero_le _, Nat.le_trans (bits_size l) e1⟩
    · split at h'
      · injection h' with h'; subst h'; exact ⟨Nat.zero_le _, Nat.zero_le _, Nat.zero_le _⟩
      · split at h'
        · injection h' with h'; subst h'; exact ⟨Nat.zero_le _, Nat.zero_le _, Nat.zero_le _⟩
        · injection h' with h'; subst h'; exact ⟨Nat.zero_le _, Nat.zero_le _, Nat.zero_le _⟩

set_option maxHeartbeats 16000000 in
set_option maxRecDepth 100000 in
theorem reads_walk (t : ByteArray) (ht : t.size ≤ 140737488351232) {w : World} (hE : Env w) :
    Calls Tryd.prog 3 #[.string t] w fun e w' => e = .returned (.bool true) ∧ Only (fun _ => False) w w' := by
  have HE := Lib.hid hE
  clear hE
  go_enter Tryd.func3, Tryd.ntmps3
  go_wp2_with fail
  refine (head_any HE.out).mono ?_
  rintro e w1 ⟨rfl, ho1⟩
  by_cases g1 : (500 : Int) < (t.size : Int)
  · go_wp2_with fail
    go_ret
    exact ⟨rfl, ho1⟩
  · have d1 : decide ((500 : Int) < (t.size : Int)) = false := by simpa using g1
    have ht2 : t.size ≤ 500 := by omega
    clear g1 ht
    go_wp2_with fail
    refine (step_any t (by omega) (HE.out.new ho1)).mono ?_
    rintro e w2 ⟨ho2, ⟨s, v, hs, rfl, hrow⟩ | ⟨hs, rfl⟩⟩
    · have hf := Lib.hid (step_fit hs)
      obtain ⟨hl, hon⟩ := line_step hs
      obtain ⟨z1, z2, z3⟩ := step_size hs
      have htl : t.data.toList.length = t.size := by simp
      rw [htl] at z1 z2 z3
      have hL := Lib.hid hl
      have hO := Lib.hid hon
      have hoA := ho1.trans' ho2
      have HE2 := Lib.hid (HE.out.new hoA)
      clear hs hl hon htl
      obtain ⟨kind, node, sess, req, ck, key, val, at_, n, keep, tear⟩ := s
      have hR := Lib.hid hrow
      obtain ⟨a, cap, hv, _⟩ := hrow
      generalize (bools _).length = N at hv
      subst hv
      simp only at z1 z2 z3
      unfold Stp.cells Str
      as_aux_lemma =>
        go_upto_region 8 with fail
        have ho3 : Only (fun _ => False) w (w2.alloc (.cells #[.int .i64 kind, .int .i64 node, .int .i64 sess, .int .i64 req, .int .i64 ck, .string ⟨key.toArray⟩, .string ⟨val.toArray⟩, .int .i64 at_, .int .i64 n, .slice a N cap, .int .i64 tear] 27)) := hoA.alloc _
        have k3 := blk_alloc_new (w := w2) (o := (.cells #[.int .i64 kind, .int .i64 node, .int .i64 sess, .int .i64 req, .int .i64 ck, .string ⟨key.toArray⟩, .string ⟨val.toArray⟩, .int .i64 at_, .int .i64 n, .slice a N cap, .int .i64 tear] 27))
        have hR3 := Lib.hid (hR.out.new ((Only.refl _ _).alloc (.cells #[.int .i64 kind, .int .i64 node, .int .i64 sess, .int .i64 req, .int .i64 ck, .string ⟨key.toArray⟩, .string ⟨val.toArray⟩, .int .i64 at_, .int .i64 n, .slice a N cap, .int .i64 tear] 27)))
        generalize (w2.alloc (.cells #[.int .i64 kind, .int .i64 node, .int .i64 sess, .int .i64 req, .int .i64 ck, .string ⟨key.toArray⟩, .string ⟨val.toArray⟩, .int .i64 at_, .int .i64 n, .slice a N cap, .int .i64 tear] 27)) = w3 at *
        generalize hB : w2.heap.size = B at *
        have hE3 := Lib.hid (HE.out.new ho3)
        have c0 := cell_of_blk k3 0
        have c1 := cell_of_blk k3 1
        have c2 := cell_of_blk k3 2
        have c3 := cell_of_blk k3 3
        have c4 := cell_of_blk k3 4
        have c5 := cell_of_blk k3 5
        have c6 := cell_of_blk k3 6
        have c7 := cell_of_blk k3 7
        have c8 := cell_of_blk k3 8
        have c9 := cell_of_blk k3 9
        have c10 := cell_of_blk k3 10
        simp only [List.getElem?_toArray, List.getElem?_cons_zero, List.getElem?_cons_succ] at c0 c1 c2 c3 c4 c5 c6 c7 c8 c9 c10
        go_wp2_with fail
        refine (lline_any (s := ⟨kind, node, sess, req, ck, key, val, at_, n, keep, tear⟩) (v := .slice a N cap) hf.out hR3.out (by simp only; omega) (by simp only; omega) (by simp only; omega) hE3.out).mono ?_
        rintro e w4 ⟨ho4, ⟨t', ht', rfl⟩ | ⟨hn, rfl⟩⟩
        · have hh := ht'.symm.trans hL.out
          injection hh with hh
          subst hh
          rw [Str_self]
          clear ht' c0 c1 c2 c3 c4 c5 c6 c7 c8 c9 c10
          have k4 := ho4.blk k3 id
          have ho5 := ho3.trans' ho4
          have hR4 := Lib.hid (hR3.out.new ho4)
          have c0 := cell_of_blk k4 0
          have c1 := cell_of_blk k4 1
          have c2 := cell_of_blk k4 2
          have c3 := cell_of_blk k4 3
          have c4 := cell_of_blk k4 4
          have c5 := cell_of_blk k4 5
          have c6 := cell_of_blk k4 6
          have c7 := cell_of_blk k4 7
          have c8 := cell_of_blk k4 8
          have c9 := cell_of_blk k4 9
          have c10 := cell_of_blk k4 10
          simp only [List.getElem?_toArray, List.getElem?_cons_zero, List.getElem?_cons_succ] at c0 c1 c2 c3 c4 c5 c6 c7 c8 c9 c10
          have l0 := later_cell (S := fun _ => False) c0 id
          have l1 := later_cell (S := fun _ => False) c1 id
          have l2 := later_cell (S := fun _ => False) c2 id
          have l3 := later_cell (S := fun _ => False) c3 id
          have l4 := later_cell (S := fun _ => False) c4 id
          have l5 := later_cell (S := fun _ => False) c5 id
          have l6 := later_cell (S := fun _ => False) c6 id
          have l7 := later_cell (S := fun _ => False) c7 id
          have l8 := later_cell (S := fun _ => False) c8 id
          have l9 := later_cell (S := fun _ => False) c9 id
          have l10 := later_cell (S := fun _ => False) c10 id
          have heq : (t.toList == t.toList) = true := by simp
          have HK4 := Lib.hid k4
          have HO5 := Lib.hid ho5
          clear k3 k4 ho3 ho4 ho5 hoA
          go_wp2_with fail
          refine wp_region_segL [1,1,1,1,1,1,1,1,1,2,2,2,2] (fun _ => False) (by kernel_rfl) (by kernel_rfl) ?_
          refine seg_reads 9 (by decide) (by decide) ?_
          simp only [List.take_succ_cons, List.take_zero, List.drop_succ_cons, List.drop_zero]
          iterate 9 (go_big_quiet_step (fail))
          refine wpQuiet_nil ?_
          refine seg_eff rfl ?_
          go_wp2_with fail
          refine (only_any (s := ⟨kind, node, sess, req, ck, key, val, at_, n, keep, tear⟩) (v := .slice a N cap) (hR4.out.new (Only.refl _ _).drew)).mono ?_
          rintro e w5 ⟨ho6', u, rfl, hru⟩
          have ho6 : Only (fun _ => False) w4 w5 := (Only.refl _ _).drew.trans' ho6'
          rw [hO.out] at hru ⊢
          unfold Stp.cells Str
          go_wp2_with fail
          refine strict_intro ⟨⟨⟨w5, ho6⟩, rfl⟩, ?_⟩
          refine seg_list' _ _ _ _ (by kernel_rfl) ?_
          go_wp2_with fail
          refine (same_any (s := ⟨kind, node, sess, req, ck, key, val, at_, n, keep, tear⟩) (u := .slice a N cap) (v := u) (hR4.out.new ho6) hru).mono ?_
          rintro e w6 ⟨rfl, ho7⟩
          go_wp2_with fail
          refine strict_then ?_
          go_wp2_with fail
          go_ret
          exact ⟨rfl, (HO5.out.trans' ho6).trans' ho7⟩
        · rw [hL.out] at hn; cases hn
    · have hoA := ho1.trans' ho2
      unfold stp0 Stp.cells Str
      as_aux_lemma =>
        go_wp2_with fail
        refine (same_any (s := stp0) (u := .slice none 0 0) (v := .slice none 0 0) (Row1.nil _) (Row1.nil _)).mono ?_
        rintro e w3 ⟨rfl, ho3⟩
        go_wp2_with fail
        go_ret
        exact ⟨rfl, (hoA.alloc _).trans' ho3⟩
end Go.Proofs.YtcocmljollnpdaaDoor
