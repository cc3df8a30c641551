/- due: Next. -/
import Derived.Test.YtgabgdeakeliaaaDu8
namespace Go.Proofs.Ytgabgdeakeliaaa
open Go.RowKit Go.Dm

@[go_sem] theorem val_mk (a b c d : Int) : Ent.val ⟨a, b, c, d⟩ = .agg #[.int .i64 a, .int .i64 b, .int .u64 c, .int .i64 d] := rfl

def NextR (w : World) (qb : Nat) (F : Nat → Prop) (L : List Ent) (now : Int) (e : Ending) (w' : World) : Prop :=
  ∃ L', ((∃ x, L.Perm (x :: L') ∧ x.at_ ≤ now ∧ (∀ y ∈ L, y.bef x = false) ∧ e = .returned (.tuple #[x.val, .bool true])) ∨ ((∀ y ∈ L, now < y.at_) ∧ L' = L ∧ e = .returned (.tuple #[e0.val, .bool false]))) ∧
    QIs w' qb (fun c => F c ∨ w.heap.size ≤ c) L' ∧ Only F w w'

theorem at_of_bef {x y : Ent} (h : y.bef x = false) : x.at_ ≤ y.at_ := by
  unfold Ent.bef at h
  split at h
  · simpa using h
  · rename_i h'; simp at h'; omega

set_option maxHeartbeats 2000000 in
set_option maxRecDepth 100000 in
theorem next_any {w : World} {qb : Nat} {F : Nat → Prop} {L : List Ent} (h : QIs w qb F L) (hn : L.length ≤ 1000) (now : Int) :
    Calls Try.prog 9 #[.pointer (some ⟨qb, 0, none⟩), .int .i64 now] w (NextR w qb F L now) := by
  obtain ⟨⟨lb, mb, v, hq, hR, f1, f2, f3⟩, f0⟩ := h
  have hRR := hR
  obtain ⟨⟨m, hrep, hc⟩, hheap⟩ := hRR
  have c0 := cell_of_blk hrep.head 0
  have d0 := cell_of_blk hq 0
  simp only [List.getElem?_toArray, List.getElem?_cons_zero] at c0 d0
  have zlb := blk_lt hrep.head
  have zqb := blk_lt hq
  have hstay : ∀ w', Only (fun _ => False) w w' → QIs w' qb (fun c => F c ∨ w.heap.size ≤ c) L ∧ Only F w w' := fun w' ho =>
    ⟨⟨⟨lb, mb, v, ho.blk hq id, hR.only ho id id (fun _ _ => id), .inl f1, .inl f2, fun k hk => .inl (f3 k hk)⟩, .inl f0⟩, ho.mono fun _ _ h => h.elim⟩
  by_cases hl0 : L = []
  · obtain ⟨ad, cap, rfl⟩ : ∃ ad cap, v = .slice ad 0 cap := by
      rcases hrep.row.2 with ⟨h1, h0⟩ | ⟨g, cap, cur, hv, _⟩
      · exact ⟨none, 0, h1⟩
      · exact ⟨_, _, by rw [hl0] at hv; exact hv⟩
    clear hrep hR hc hheap hq
    go_enter Try.func9, Try.ntmps9
    go_wp2
    refine bodyPost_ret (v := .tuple #[.agg #[.int .i64 0, .int .i64 0, .int .u64 0, .int .i64 0], .bool false]) (by simp [results, Try.results9, go_sem]) rfl ?_
    have ho1 : Only (fun _ => False) w (w.alloc (.cells #[.int .i64 0, .int .i64 0, .int .u64 0, .int .i64 0] 32)) := by
      repeat' (first | exact Only.refl _ _ | refine Only.drewN ?_ _ | refine Only.drew ?_ | refine Only.alloc ?_ _ | refine Only.setCell ?_ (fun _ => by simp) _ | refine Only.setBlk ?_ (fun _ => by simp) _)
    obtain ⟨h1, h2⟩ := hstay _ ho1
    exact ⟨L, .inr ⟨by rw [hl0]; simp, rfl, rfl⟩, h1, h2⟩
  · have hpos : 0 < L.length := List.length_pos_iff.2 hl0
    have hx : L[0]? = some (fn L 0) := at_fn hpos
    have hleast : ∀ y ∈ L, y.bef (fn L 0) = false := fun y hy => by
      obtain ⟨i, hi⟩ := List.mem_iff_getElem?.1 hy
      have := hheap.least i (List.getElem?_eq_some_iff.1 hi).1
      rwa [fn_at hi] at this
    obtain ⟨ab, cap, cur, rfl, hab, hcap, hmx, hcs⟩ := row_some hrep.row hpos
    have x0 := (row_cells hrep.row hx).1
    rw [Nat.zero_mul] at x0
    have zab := blk_lt hab
    have hpop := fun u (ho : Only (fun _ => False) w u) => hpop_any (hR.only ho id id (fun _ _ => id)) hn hpos
    have Hpop := Lib.hid hpop
    have Hl := Lib.hid hleast
    have Hr := Lib.hid hrep
    have Hab := Lib.hid hab
    have Hst := Lib.hid hstay
    generalize hN : L.length = N at *
    have HN := Lib.hid hN
    have q0 : ((N : Int) == 0) = false := by rw [beq_eq_false_iff_ne]; omega
    have q1 : (0 : Int) < (N : Int) := by omega
    generalize hfx : fn L 0 = x at *
    clear hN hfx hx hpop hleast hrep hstay hc hheap hab hR
    by_cases hnow : now < x.at_
    · go_enter Try.func9, Try.ntmps9
      go_wp2
      refine bodyPost_ret (v := .tuple #[.agg #[.int .i64 0, .int .i64 0, .int .u64 0, .int .i64 0], .bool false]) (by simp [results, Try.results9, go_sem]) rfl ?_
      have ho1 : Only (fun _ => False) w (w.alloc (.cells #[.int .i64 0, .int .i64 0, .int .u64 0, .int .i64 0] 32)) := by
        repeat' (first | exact Only.refl _ _ | refine Only.drewN ?_ _ | refine Only.drew ?_ | refine Only.alloc ?_ _ | refine Only.setCell ?_ (fun _ => by simp) _ | refine Only.setBlk ?_ (fun _ => by simp) _)
      obtain ⟨h1, h2⟩ := Hst.out _ ho1
      exact ⟨L, .inr ⟨fun y hy => by have := at_of_bef (Hl.out y hy); omega, rfl, rfl⟩, h1, h2⟩
    · have hnow' : decide (now < x.at_) = false := by simpa using hnow
      go_enter Try.func9, Try.ntmps9
      go_wp2_with fail
      have ho1 : Only (fun _ => False) w (w.alloc (.cells #[.int .i64 0, .int .i64 0, .int .u64 0, .int .i64 0] 32)) := by
        repeat' (first | exact Only.refl _ _ | refine Only.drewN ?_ _ | refine Only.drew ?_ | refine Only.alloc ?_ _ | refine Only.setCell ?_ (fun _ => by simp) _ | refine Only.setBlk ?_ (fun _ => by simp) _)
      refine (Hpop.out _ ho1).mono ?_
      rintro r w2 ⟨rfl, v', L', hv', hR2, hperm, ho2⟩
      have hz2 := ho2.size
      have hs2 : w2.heap[w.heap.size]? = some (.cells #[.int .i64 0, .int .i64 0, .int .u64 0, .int .i64 0] 32 (0, 0)) := by
        refine ho2.blk blk_alloc_new ?_
        rintro (h | h | h)
        · exact Nat.lt_irrefl _ (h ▸ Hr.out.map.lt)
        · exact Nat.lt_irrefl _ (h ▸ zlb)
        · injection h with h; exact Nat.lt_irrefl _ (h ▸ zab)
      have k0 := cell_of_blk hs2 0
      have k1 := cell_of_blk hs2 1
      have k2 := cell_of_blk hs2 2
      have k3 := cell_of_blk hs2 3
      have j0 := free_of_blk hs2 0
      have j1 := free_of_blk hs2 1
      have j2 := free_of_blk hs2 2
      have j3 := free_of_blk hs2 3
      have zs : w.heap.size < w2.heap.size := blk_lt hs2
      simp only [List.getElem?_toArray, List.getElem?_cons_zero, List.getElem?_cons_succ] at k0 k1 k2 k3
      have hq2 : w2.heap[qb]? = _ := ho2.blk (ho1.blk hq id) (by
        rintro (h | h | h)
        · rw [h] at hq; exact Hr.out.map.ne hq rfl
        · rw [h] at hq; rw [Hr.out.head] at hq; injection hq with hq; injection hq with _ h2; exact absurd h2 (by decide)
        · exact ne_of_elem hq Hab.out (by decide) (by simpa [Value.ownBlock] using h))
      obtain ⟨x1, x2, x3, x4⟩ := x
      go_wp2
      refine bodyPost_ret (v := .tuple #[.agg #[.int .i64 x1, .int .i64 x2, .int .u64 x3, .int .i64 x4], .bool true]) (by simp [results, Try.results9, go_sem, *]) rfl ?_
      have ho3 : ∀ (o : Obj) (a b c d : Value), Only (fun c => c = w.heap.size) w2 (((((w2.setCell ⟨w.heap.size, 0, none⟩ a).setCell ⟨w.heap.size, 1, none⟩ b).setCell ⟨w.heap.size, 2, none⟩ c).setCell ⟨w.heap.size, 3, none⟩ d).alloc o) := fun o a b c d => by
        repeat' (first | exact Only.refl _ _ | refine Only.drewN ?_ _ | refine Only.drew ?_ | refine Only.alloc ?_ _ | refine Only.setCell ?_ (fun _ => by simp) _ | refine Only.setBlk ?_ (fun _ => by simp) _)
      have hv2 : ∀ k, v'.ownBlock = some k → k = ab := fun k hk => by rw [hv'] at hk; injection hk with hk; exact hk.symm
      refine ⟨L', .inl ⟨⟨x1, x2, x3, x4⟩, hperm, hnow, Hl.out, rfl⟩, ⟨⟨lb, mb, v', (ho3 _ _ _ _ _).blk hq2 (Nat.ne_of_lt zqb), hR2.only (ho3 _ _ _ _ _) (Nat.ne_of_lt zlb) (Nat.ne_of_lt Hr.out.map.lt) (fun k hk => by rw [hv2 k hk]; exact Nat.ne_of_lt zab), .inl f1, .inl f2, fun k hk => .inl (f3 k (by rw [← hv']; exact hk))⟩, .inl f0⟩, ?_⟩
      have ho12 : Only F w w2 := (ho1.mono fun _ _ h => h.elim).trans ho2 fun c _ h => by
        rcases h with rfl | rfl | h
        · exact f2
        · exact f1
        · exact f3 c h.symm
      exact ho12.trans (ho3 _ _ _ _ _) fun c hc h => by rw [h] at hc; exact absurd hc (Nat.lt_irrefl _)
end Go.Proofs.Ytgabgdeakeliaaa
