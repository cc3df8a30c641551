/- due: the queue's methods. -/
import Derived.Test.YtgabgdeakeliaaaDu6
namespace Go.Proofs.Ytgabgdeakeliaaa
open Go.RowKit Go.Dm

/-- A queue in memory: its entries, in some order; all of it lies in F. -/
structure QIs (w : World) (qb : Nat) (F : Nat → Prop) (L : List Ent) : Prop where
  ex : ∃ lb mb v, w.heap[qb]? = some (.cells #[.pointer (some ⟨lb, 0, none⟩)] 52 (0, 0)) ∧ HRep w lb mb v L ∧ F lb ∧ F mb ∧ ∀ k, v.ownBlock = some k → F k
  nq : F qb

theorem HRep.only {S : Nat → Prop} {w w' : World} {lb mb : Nat} {v : Value} {L : List Ent} (h : HRep w lb mb v L) (ho : Only S w w') (h1 : ¬ S lb) (h2 : ¬ S mb) (h3 : ∀ k, v.ownBlock = some k → ¬ S k) : HRep w' lb mb v L := by
  obtain ⟨⟨m, hrep, hc⟩, hh⟩ := h
  exact ⟨⟨m, hrep.only ho h1 h2 h3, hc⟩, hh⟩
/-- What is done elsewhere leaves a queue as it is. -/
theorem QIs.only {S : Nat → Prop} {w w' : World} {qb : Nat} {F : Nat → Prop} {L : List Ent} (h : QIs w qb F L) (ho : Only S w w') (hs : ∀ c, S c → F c → False) : QIs w' qb F L := by
  obtain ⟨⟨lb, mb, v, hq, hr, f1, f2, f3⟩, f0⟩ := h
  exact ⟨⟨lb, mb, v, ho.blk hq (fun h => hs _ h f0), hr.only ho (fun h => hs _ h f1) (fun h => hs _ h f2) (fun k hk h => hs _ h (f3 k hk)), f1, f2, f3⟩, f0⟩
theorem QIs.mono {w : World} {qb : Nat} {F F' : Nat → Prop} {L : List Ent} (h : QIs w qb F L) (hf : ∀ c, F c → F' c) : QIs w qb F' L := by
  obtain ⟨⟨lb, mb, v, hq, hr, f1, f2, f3⟩, f0⟩ := h
  exact ⟨⟨lb, mb, v, hq, hr, hf _ f1, hf _ f2, fun k hk => hf _ (f3 k hk)⟩, hf _ f0⟩

theorem Cons.get {L : List Ent} {m : List (Nm × Value)} (h : Cons L m) {i : Nat} {x : Ent} (hi : L[i]? = some x) : aget m x.nm = some (.int .i64 (i : Int)) ∧ ahas m x.nm = true := by
  have := (h.2 x.nm _).2 ⟨i, x, hi, rfl, rfl⟩
  exact ⟨this, by rw [← aget_isSome, this]; rfl⟩
theorem Cons.lacks {L : List Ent} {m : List (Nm × Value)} (h : Cons L m) {n : Nm} (hn : ∀ x ∈ L, x.nm ≠ n) : aget m n = none ∧ ahas m n = false := by
  have : aget m n = none := by
    cases hg : aget m n with
    | none => rfl
    | some v =>
      obtain ⟨i, e, hi, he, _⟩ := (h.2 n v).1 hg
      exact absurd he (hn e (List.mem_of_getElem? hi))
  exact ⟨this, by rw [← aget_isSome, this]; rfl⟩

theorem zero3 (w : World) : (zeroValue 3).run Try.prog w = .ok (.int .i64 0) w := by kernel_rfl
theorem nm_or (L : List Ent) (n : Nm) : (∃ (i : Nat) (x : Ent), L[i]? = some x ∧ x.nm = n) ∨ ∀ x ∈ L, x.nm ≠ n := by
  by_cases h : ∃ x ∈ L, x.nm = n
  · obtain ⟨x, hx, hn⟩ := h
    obtain ⟨i, hi⟩ := List.mem_iff_getElem?.1 hx
    exact .inl ⟨i, x, hi, hn⟩
  · exact .inr fun x hx hn => h ⟨x, hx, hn⟩

/-! Len -/
theorem qlen_any {w : World} {qb : Nat} {F : Nat → Prop} {L : List Ent} (h : QIs w qb F L) :
    Calls Try.prog 11 #[.pointer (some ⟨qb, 0, none⟩)] w fun e w' => e = .returned (.int .i64 (L.length : Int)) ∧ w = w' := by
  obtain ⟨⟨lb, mb, v, hq, ⟨⟨m, hrep, hc⟩, hh⟩, _⟩, _⟩ := h
  obtain ⟨ad, cap, hv⟩ : ∃ ad cap, v = .slice ad L.length cap := by
    rcases hrep.row.2 with ⟨h1, h0⟩ | ⟨g, cap, cur, hv, _⟩
    · exact ⟨none, 0, by rw [h0]; exact h1⟩
    · exact ⟨_, _, hv⟩
  subst hv
  have c0 := cell_of_blk hrep.head 0
  have d0 := cell_of_blk hq 0
  simp at c0 d0
  clear hrep hc hh hq
  go_enter Try.func11, Try.ntmps11
  go_wp2
  go_ret
  exact ⟨rfl, rfl⟩

/-! New -/
set_option maxHeartbeats 1000000 in
theorem new_any (w : World) :
    Calls Try.prog 7 #[] w fun e w' => ∃ qb, e = .returned (.pointer (some ⟨qb, 0, none⟩)) ∧ QIs w' qb (fun c => w.heap.size ≤ c) [] ∧ Only (fun _ => False) w w' := by
  have hmm := @run_makeMap Try.prog
  go_enter Try.func7, Try.ntmps7
  go_wp2
  go_ret
  have e1 : (w.alloc (.map #[] 0)).heap.size = w.heap.size + 1 := by simp
  have e2 : ((w.alloc (.map #[] 0)).alloc (.cells #[.slice none 0 0, .map (some w.heap.size)] 50)).heap.size = w.heap.size + 2 := by simp
  have b0 : (w.alloc (.map #[] 0)).heap[w.heap.size]? = some (.map #[] 0) := blk_alloc_new
  have b1 : ((w.alloc (.map #[] 0)).alloc (.cells #[.slice none 0 0, .map (some w.heap.size)] 50)).heap[w.heap.size + 1]? = some (.cells #[.slice none 0 0, .map (some w.heap.size)] 50 (0, 0)) := by rw [← e1]; exact blk_alloc_new
  refine ⟨w.heap.size + 2, rfl, ⟨⟨w.heap.size + 1, w.heap.size, .slice none 0 0, ?_, ⟨⟨[], ⟨blk_alloc_old b1, ?_, ?_⟩, ?_⟩, ?_⟩, by simp, by simp, by simp [Value.ownBlock]⟩, by simp⟩, ?_⟩
  · rw [← e2]; exact blk_alloc_new
  · exact ⟨by simp [flat], .inl ⟨rfl, rfl⟩⟩
  · exact ⟨#[], 0, blk_alloc_old (blk_alloc_old b0), by simp, by simp, by simp, by simp [akeys], by simp [akeys]⟩
  · refine ⟨by simp, fun n v => ?_⟩
    simp [aget]
  · intro i _ hi; simp at hi
  · repeat' (first | exact Only.refl _ _ | refine Only.drewN ?_ _ | refine Only.drew ?_ | refine Only.alloc ?_ _ | refine Only.setCell ?_ (fun _ => by simp) _ | refine Only.setBlk ?_ (fun _ => by simp) _)

/-! When -/
set_option maxHeartbeats 2000000 in
set_option maxRecDepth 100000 in
theorem when_any {w : World} {qb : Nat} {F : Nat → Prop} {L : List Ent} (h : QIs w qb F L) (hn : L.length ≤ 1000) (n : Nm) :
    Calls Try.prog 12 #[.pointer (some ⟨qb, 0, none⟩), .int .i64 n.kind, .agg #[.int .u64 n.num, .int .i64 n.node]] w fun e w' =>
      Hid ((∃ x ∈ L, x.nm = n ∧ e = .returned (.tuple #[.int .i64 x.at_, .bool true])) ∨ ((∀ x ∈ L, x.nm ≠ n) ∧ e = .returned (.tuple #[.int .i64 0, .bool false]))) ∧ Only (fun _ => False) w w' := by
  obtain ⟨⟨lb, mb, v, hq, hR, f1, f2, f3⟩, f0⟩ := h
  have hRR := hR
  obtain ⟨⟨m, hrep, hc⟩, hheap⟩ := hRR
  have ho : Only (fun _ => False) w (w.alloc (.cells #[.int .u64 n.num, .int .i64 n.node] 30)) := by
    repeat' (first | exact Only.refl _ _ | refine Only.drewN ?_ _ | refine Only.drew ?_ | refine Only.alloc ?_ _ | refine Only.setCell ?_ (fun _ => by simp) _ | refine Only.setBlk ?_ (fun _ => by simp) _)
  have hs : (w.alloc (.cells #[.int .u64 n.num, .int .i64 n.node] 30)).heap[w.heap.size]? = _ := blk_alloc_new
  have hrep1 := hrep.quiet ho
  have hq1 := ho.blk hq id
  rcases nm_or L n with ⟨i, x, hi, hx⟩ | hno
  · obtain ⟨hg, hh⟩ := hc.get hi
    rw [hx] at hg hh
    have hlk : ∀ y : Later (fun _ => False) (w.alloc (.cells #[.int .u64 n.num, .int .i64 n.node] 30)), (Instr.lookup 48 (.map (some mb)) (.agg #[.int .i64 n.kind, .int .u64 n.num, .int .i64 n.node]) true).run Try.prog y.u = .ok (.tuple #[.int .i64 (i : Int), .bool true]) y.u := fun y => by
      have := (hrep1.map.only y.only id).lookup und48 (zero3 _) n trivial true
      rw [hg, hh] at this
      exact this
    have gi : i < L.length := (List.getElem?_eq_some_iff.1 hi).1
    obtain ⟨ab, cap, cur, rfl, hab, hcap, hmx, hcs⟩ := row_some hrep1.row (by omega)
    obtain ⟨x0, _, _, _⟩ := row_cells hrep1.row hi
    have c0 := cell_of_blk hrep1.head 0
    have c1 := cell_of_blk hrep1.head 1
    have d0 := cell_of_blk hq1 0
    have n0 := cell_of_blk hs 0
    have n1 := cell_of_blk hs 1
    simp only [List.getElem?_toArray, List.getElem?_cons_zero, List.getElem?_cons_succ] at c0 c1 d0 n0 n1
    have lc0 := later_cell (S := fun _ => False) c0 id
    have lc1 := later_cell (S := fun _ => False) c1 id
    have ld0 := later_cell (S := fun _ => False) d0 id
    have ln0 := later_cell (S := fun _ => False) n0 id
    have ln1 := later_cell (S := fun _ => False) n1 id
    generalize hw1 : (w.alloc (.cells #[.int .u64 n.num, .int .i64 n.node] 30)) = w1 at *
    have Hw1 := Lib.hid hw1
    have Hi := Lib.hid hi
    have Hx := Lib.hid hx
    generalize hN : L.length = N at *
    have HN := Lib.hid hN
    have g1 : (i : Int) < (N : Int) := by omega
    clear hw1 hi hx hg hh hN
    go_enter Try.func12, Try.ntmps12
    go_wp2_with fail
    rw [Hw1.out]
    refine wp_region_segL [1,1,1,1,1,1,1,1,1,1,1,1,1,1,1,1] (fun _ => False) (by kernel_rfl) (by kernel_rfl) ?_
    refine seg_reads 16 (by decide) (by decide) ?_
    simp only [List.take_succ_cons, List.take_zero, List.drop_succ_cons, List.drop_zero]
    iterate 16 (go_big_quiet_step (fail))
    refine wpQuiet_nil ?_
    refine seg_nil_then ?_
    go_wp2
    go_ret2
    exact ⟨.inl ⟨x, List.mem_of_getElem? Hi.out, Hx.out, rfl⟩, ho.drew⟩
  · obtain ⟨hg, hh⟩ := hc.lacks hno
    have hlk : ∀ y : Later (fun _ => False) (w.alloc (.cells #[.int .u64 n.num, .int .i64 n.node] 30)), (Instr.lookup 48 (.map (some mb)) (.agg #[.int .i64 n.kind, .int .u64 n.num, .int .i64 n.node]) true).run Try.prog y.u = .ok (.tuple #[.int .i64 0, .bool false]) y.u := fun y => by
      have := (hrep1.map.only y.only id).lookup und48 (zero3 _) n trivial true
      rw [hg, hh] at this
      exact this
    have c0 := cell_of_blk hrep1.head 0
    have c1 := cell_of_blk hrep1.head 1
    have d0 := cell_of_blk hq1 0
    have n0 := cell_of_blk hs 0
    have n1 := cell_of_blk hs 1
    simp only [List.getElem?_toArray, List.getElem?_cons_zero, List.getElem?_cons_succ] at c0 c1 d0 n0 n1
    have lc0 := later_cell (S := fun _ => False) c0 id
    have lc1 := later_cell (S := fun _ => False) c1 id
    have ld0 := later_cell (S := fun _ => False) d0 id
    have ln0 := later_cell (S := fun _ => False) n0 id
    have ln1 := later_cell (S := fun _ => False) n1 id
    generalize hw1 : (w.alloc (.cells #[.int .u64 n.num, .int .i64 n.node] 30)) = w1 at *
    have Hw1 := Lib.hid hw1
    clear hw1 hg hh
    go_enter Try.func12, Try.ntmps12
    go_wp2_with fail
    rw [Hw1.out]
    refine wp_region_segL [1,1,1,1,1,1,1,1,1,1,1,1,1,1,1,1] (fun _ => False) (by kernel_rfl) (by kernel_rfl) ?_
    refine seg_reads 16 (by decide) (by decide) ?_
    simp only [List.take_succ_cons, List.take_zero, List.drop_succ_cons, List.drop_zero]
    iterate 16 (go_big_quiet_step (fail))
    refine wpQuiet_nil ?_
    refine seg_nil_then ?_
    go_wp2
    go_ret2
    exact ⟨.inr ⟨hno, rfl⟩, ho.drew⟩
end Go.Proofs.Ytgabgdeakeliaaa
