/- due: the law's order and the document's example. -/
import Derived.Test.YtgabgdeakeliaaaDu9
namespace Go.Proofs.Ytgabgdeakeliaaa
open Go.RowKit Go.Dm

set_option maxHeartbeats 4000000 in
set_option maxRecDepth 100000 in
theorem lessl_any (a b : Ent) (w : World) :
    Calls Try.prog 10 #[a.val, b.val] w fun e w' => e = .returned (.bool (a.bef b)) ∧ Only (fun _ => False) w w' := by
  obtain ⟨a1, a2, a3, a4⟩ := a
  obtain ⟨b1, b2, b3, b4⟩ := b
  unfold Ent.val Ent.bef
  dsimp only
  by_cases h1 : a1 = b1
  · subst h1
    by_cases h2 : a2 = b2
    · subst h2
      by_cases h3 : a3 = b3
      · subst h3
        go_enter Try.func10, Try.ntmps10
        go_wp2
        go_ret
        exact ⟨by simp, ((Only.refl _ _).alloc _).alloc _⟩
      · have h4 : (a3 != b3) = true := by simp [h3]
        go_enter Try.func10, Try.ntmps10
        go_wp2
        go_ret
        exact ⟨by simp [h3], ((Only.refl _ _).alloc _).alloc _⟩
    · have h3 : (a2 != b2) = true := by simp [h2]
      go_enter Try.func10, Try.ntmps10
      go_wp2
      go_ret
      exact ⟨by simp [h2], ((Only.refl _ _).alloc _).alloc _⟩
  · have h3 : (a1 != b1) = true := by simp [h1]
    go_enter Try.func10, Try.ntmps10
    go_wp2
    go_ret
    exact ⟨by simp [h1], ((Only.refl _ _).alloc _).alloc _⟩

theorem QIs.up {w w' : World} {qb k : Nat} {L : List Ent} (h : QIs w' qb (fun c => k ≤ c ∨ w.heap.size ≤ c) L) (hk : k ≤ w.heap.size) : QIs w' qb (fun c => k ≤ c) L :=
  h.mono fun _ h => h.elim id (Nat.le_trans hk)
theorem Only.newer {k : Nat} {w w1 w2 : World} (h : Only (fun c => k ≤ c) w1 w2) (h0 : Only (fun _ => False) w w1) (hk : k = w.heap.size) : Only (fun _ => False) w w2 :=
  h0.trans h fun c hc h => absurd (Nat.lt_of_lt_of_le hc (hk ▸ h)) (Nat.lt_irrefl _)

def exA : Ent := ⟨5, 1, 1, 0⟩
def exB : Ent := ⟨3, 1, 2, 0⟩
/-- What the two settings of the example leave. -/
theorem ex_left {L1 L2 : List Ent} (h1 : (∃ x M, x.nm = exA.nm ∧ ([] : List Ent).Perm (x :: M) ∧ L1.Perm (exA :: M)) ∨ ((∀ x ∈ ([] : List Ent), x.nm ≠ exA.nm) ∧ L1.Perm (exA :: [])))
    (h2 : (∃ x M, x.nm = exB.nm ∧ L1.Perm (x :: M) ∧ L2.Perm (exB :: M)) ∨ ((∀ x ∈ L1, x.nm ≠ exB.nm) ∧ L2.Perm (exB :: L1))) : L1.length = 1 ∧ L2.Perm [exB, exA] := by
  rcases h1 with ⟨x, M, _, h, _⟩ | ⟨_, h1⟩
  · exact absurd h.length_eq (by simp)
  · rcases h2 with ⟨x, M, hn, h, _⟩ | ⟨_, h2⟩
    · have h3 := h1.symm.trans h
      have hx : x ∈ [exA] := h3.symm.subset List.mem_cons_self
      simp at hx
      subst hx
      exact absurd hn (by decide)
    · exact ⟨by simpa using h1.length_eq, h2.trans (h1.cons _)⟩
theorem ex_next {L L' : List Ent} {x : Ent} (h : L.Perm [exB, exA]) (hx : L.Perm (x :: L')) (hl : x.at_ ≤ 4) : x = ⟨3, 1, 2, 0⟩ := by
  have : x ∈ [exB, exA] := (hx.symm.trans h).subset List.mem_cons_self
  simp at this
  rcases this with rfl | rfl
  · rfl
  · exact absurd hl (by decide)

set_option maxHeartbeats 4000000 in
set_option maxRecDepth 100000 in
theorem head_any (w : World) :
    Calls Try.prog 6 #[] w fun e w' => e = .returned (.bool true) ∧ Only (fun _ => False) w w' := by
  go_enter Try.func6, Try.ntmps6
  go_wp2_with fail
  refine (new_any _).mono ?_
  rintro e w1 ⟨qb, rfl, hq1, ho1⟩
  generalize hk : w.heap.size = k at *
  have Hk := Lib.hid hk
  have hz1 := ho1.size
  rw [hk] at hz1
  clear hk
  go_wp2_with fail
  refine (set_any (F := fun c => k ≤ c) (L := []) hq1 (by simp) ⟨1, 1, 0⟩ 5).mono ?_
  rintro e w2 ⟨rfl, L1, hL1, hq2, ho2⟩
  have hq2 := hq2.up hz1
  have hz2 := ho2.size
  have HL1 := Lib.hid hL1
  clear hL1
  have hln : Hid (L1.length = 1) := by
    rcases HL1.out with ⟨x, M, _, h, _⟩ | ⟨_, h1⟩
    · exact absurd h.length_eq (by simp)
    · exact (by simpa using h1.length_eq : L1.length = 1)
  go_wp2_with fail
  refine (set_any (F := fun c => k ≤ c) hq2 (by rw [hln.out]; omega) ⟨1, 2, 0⟩ 3).mono ?_
  rintro e w3 ⟨rfl, L2, hL2, hq3, ho3⟩
  have hq3 := hq3.up (Nat.le_trans hz1 hz2)
  have hz3 := ho3.size
  have HL2 := Lib.hid (ex_left HL1.out hL2).2
  clear hL2
  go_wp2_with fail
  refine (next_any (F := fun c => k ≤ c) hq3 (by rw [HL2.out.length_eq]; decide) 4).mono ?_
  rintro e w4 ⟨L3, hr, hq4, ho4⟩
  have hall : Only (fun _ => False) w w4 := (Only.newer ((ho2.trans' ho3).trans' ho4) ho1 Hk.out.symm)
  rcases hr with ⟨x, hp, hx, hl, rfl⟩ | ⟨hl, _, _⟩
  · obtain rfl := ex_next HL2.out hp hx
    have Hl := Lib.hid hl
    have Hp := Lib.hid hp
    clear hl hp
    go_wp2
    go_ret
    refine ⟨rfl, ?_⟩
    have ho5 : Only (fun _ => False) w4 (w4.alloc (.cells #[.int .i64 3, .int .i64 1, .int .u64 2, .int .i64 0] 32)) := by
      repeat' (first | exact Only.refl _ _ | refine Only.drewN ?_ _ | refine Only.drew ?_ | refine Only.alloc ?_ _ | refine Only.setCell ?_ (fun _ => by simp) _ | refine Only.setBlk ?_ (fun _ => by simp) _)
    exact hall.trans' ho5
  · exact absurd (hl exB (HL2.out.symm.subset (by simp))) (by decide)
end Go.Proofs.Ytgabgdeakeliaaa
