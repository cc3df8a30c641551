/- due: entries as keys of a map; what a queue's blocks are. -/
import Derived.Test.YtgabgdeakeliaaaDu12
import Derived.Test.YtgabgdeakeliaaaDmRange
import Derived.Maps.RangeWalk
namespace Go.Proofs.Ytgabgdeakeliaaa
open Go.RowKit Go.Dm
set_option linter.unusedVariables false
set_option linter.unusedSimpArgs false

theorem ent_check (w : World) (em : Bool) (a : Ent) : (Instr.checkKey em 10000 32 a.val).run Try.prog w = .ok () w := by kernel_rfl
theorem ent_equal (w : World) (a b : Ent) : (Op.equal 32 a.val b.val).run Try.prog w = .ok (a.at_ == b.at_ && (a.kind == b.kind && (a.num == b.num && a.node == b.node))) w := by
  unfold Op.equal Ent.val Op.maxDepth
  rw [run_equalIn_agg w 9999 32 _ _ (by kernel_rfl) (by kernel_rfl)]
  simp [go_sem]
  by_cases h0 : a.at_ = b.at_ <;> by_cases h1 : a.kind = b.kind <;> by_cases h2 : a.num = b.num <;> by_cases h3 : a.node = b.node <;> simp [h0, h1, h2, h3]
theorem ent_inj (a b : Ent) (h : a.val = b.val) : a = b := by
  unfold Ent.val at h
  simp at h
  obtain ⟨h0, h1, h2, h3⟩ := h
  cases a; cases b; simp_all
noncomputable def entE : KE Try.prog 32 Ent := KE.ofStruct Ent.val (fun _ => True) ent_inj Try.underlying32 (fun a => ⟨_, rfl⟩) ent_check
  (fun w a b => ⟨_, ent_equal w a b, by
    constructor
    · intro h
      simp only [Bool.and_eq_true, beq_iff_eq] at h
      unfold Ent.val
      rw [h.1, h.2.1, h.2.2.1, h.2.2.2]
    · intro h
      have := ent_inj _ _ h
      subst this
      simp⟩)
  (fun a => by simp [Ent.val, Instr.sameBits])
theorem und26 : Try.prog.underlying 26 = some (.map 32 4) := by kernel_rfl
theorem zero4 (w : World) : (zeroValue 4).run Try.prog w = .ok (.bool false) w := by kernel_rfl

/-- The map of all that is there. -/
def tm (K : List Ent) : List (Ent × Value) := K.map fun e => (e, .bool true)
theorem akeys_tm (K : List Ent) : akeys (tm K) = K := by
  unfold akeys tm
  rw [List.map_map]
  exact List.map_id' K
theorem tm_length (K : List Ent) : (tm K).length = K.length := by simp [tm]
theorem adel_tm (K : List Ent) (x : Ent) : adel (tm K) x = tm (K.filter fun y => decide (y ≠ x)) := by
  unfold adel tm
  rw [List.filter_map]
  rfl
theorem ahas_tm {K : List Ent} {x : Ent} : ahas (tm K) x = true ↔ x ∈ K := by rw [ahas_iff, akeys_tm]
theorem aput_tm {K : List Ent} {x : Ent} (h : x ∉ K) : aput (tm K) x (.bool true) = tm (K ++ [x]) := by
  unfold aput
  rw [if_neg (by rw [ahas_tm]; exact h)]
  simp [tm]
theorem aget_tm {K : List Ent} {x : Ent} {v : Value} (h : aget (tm K) x = some v) : v = .bool true ∧ x ∈ K := by
  have hh : ahas (tm K) x = true := by rw [← aget_isSome, h]; rfl
  have hx := ahas_tm.1 hh
  unfold aget at h
  cases hf : (tm K).find? fun p => decide (p.1 = x) with
  | none => rw [hf] at h; cases h
  | some p =>
    rw [hf] at h
    have hp := List.mem_of_find?_eq_some hf
    obtain ⟨y, _, rfl⟩ := List.mem_map.1 hp
    simp at h
    exact ⟨h.symm, hx⟩

theorem aget_of_tm {K : List Ent} {x : Ent} (h : x ∈ K) : aget (tm K) x = some (.bool true) := by
  cases hg : aget (tm K) x with
  | none =>
    have := ahas_tm.2 h
    rw [← aget_isSome, hg] at this
    cases this
  | some v => rw [(aget_tm hg).1]
/-- What was there alone, and what is said of it. -/
theorem QIs.bound {w : World} {qb : Nat} {F : Nat → Prop} {L : List Ent} (h : QIs w qb F L) : QIs w qb (fun c => F c ∧ c < w.heap.size) L := by
  obtain ⟨⟨lb, mb, v, hq, hR, f1, f2, f3⟩, f0⟩ := h
  have hRR := hR
  obtain ⟨⟨m, hrep, hc⟩, hheap⟩ := hRR
  refine ⟨⟨lb, mb, v, hq, hR, ⟨f1, blk_lt hrep.head⟩, ⟨f2, hrep.map.lt⟩, fun k hk => ⟨f3 k hk, ?_⟩⟩, f0, blk_lt hq⟩
  rcases hrep.row.2 with ⟨h1, _⟩ | ⟨g, cap, cur, hv, _, hh, _⟩
  · rw [h1] at hk; cases hk
  · rw [hv] at hk
    have : g = k := by simpa [Value.ownBlock] using hk
    rw [← this]
    exact blk_lt hh
theorem QIs.names {w : World} {qb : Nat} {F : Nat → Prop} {L : List Ent} (h : QIs w qb F L) : (L.map Ent.nm).Nodup := by
  obtain ⟨⟨lb, mb, v, hq, ⟨⟨m, hrep, hc⟩, _⟩, _⟩, _⟩ := h
  exact hc.1
theorem QIs.back {w w' : World} {qb : Nat} {F : Nat → Prop} {L : List Ent} (h : QIs w' qb (fun c => F c ∨ w.heap.size ≤ c) L) (hF : ∀ c, w.heap.size ≤ c → F c) : QIs w' qb F L :=
  h.mono fun c h => h.elim id (hF c)
theorem Only.newS {S : Nat → Prop} {w w1 w2 : World} (h0 : Only (fun _ => False) w w1) (h : Only S w1 w2) (hk : ∀ c, S c → w.heap.size ≤ c) : Only (fun _ => False) w w2 :=
  h0.trans h fun c hc h => absurd (Nat.lt_of_lt_of_le hc (hk c h)) (Nat.lt_irrefl _)

/-! What a setting does to the entries, as a list without order. -/
theorem set_keys {Q Q' K : List Ent} {e : Ent} (hp : Q.Perm K) (hn : (Q.map Ent.nm).Nodup) (h : (∃ x M, x.nm = e.nm ∧ Q.Perm (x :: M) ∧ Q'.Perm (e :: M)) ∨ ((∀ x ∈ Q, x.nm ≠ e.nm) ∧ Q'.Perm (e :: Q))) :
    Q'.Perm ((K.filter fun y => decide (y.nm ≠ e.nm)) ++ [e]) := by
  have key : ∀ M : List Ent, (∀ y ∈ M, y.nm ≠ e.nm) → (M.filter fun y => decide (y.nm ≠ e.nm)) = M := fun M hM => List.filter_eq_self.2 fun y hy => by simp [hM y hy]
  rcases h with ⟨x, M, hx, h1, h2⟩ | ⟨h1, h2⟩
  · have hM : ∀ y ∈ M, y.nm ≠ e.nm := fun y hy he => by
      have := (h1.map Ent.nm).nodup_iff.1 hn
      rw [List.map_cons, List.nodup_cons] at this
      exact this.1 (by rw [hx, ← he]; exact List.mem_map.2 ⟨y, hy, rfl⟩)
    have h3 := (hp.symm.trans h1).filter fun y => decide (y.nm ≠ e.nm)
    rw [List.filter_cons, key M hM] at h3
    simp only [hx, ne_eq, not_true_eq_false, decide_false, Bool.false_eq_true, if_false] at h3
    exact h2.trans ((List.perm_append_singleton e M).symm.trans (h3.symm.append_right [e]))
  · have h3 := hp.symm.filter fun y => decide (y.nm ≠ e.nm)
    rw [key Q h1] at h3
    exact h2.trans ((List.perm_append_singleton e Q).symm.trans (h3.symm.append_right [e]))

/-- How the inner loop leaves the keys that are to stay. -/
theorem keep_skip {K0 left : List Ent} {e x : Ent} (hx : x.nm ≠ e.nm) : (K0.filter fun y => decide (y.nm ≠ e.nm ∨ y ∈ left)) = K0.filter fun y => decide (y.nm ≠ e.nm ∨ y ∈ left.filter fun c => !decide (c = x)) := by
  refine List.filter_congr fun y _ => ?_
  simp only [List.mem_filter]
  by_cases h : y = x
  · subst h; simp [hx]
  · simp [h]
theorem keep_drop {K0 left : List Ent} {e x : Ent} (hx : x.nm = e.nm) : ((K0.filter fun y => decide (y.nm ≠ e.nm ∨ y ∈ left)).filter fun y => decide (y ≠ x)) = K0.filter fun y => decide (y.nm ≠ e.nm ∨ y ∈ left.filter fun c => !decide (c = x)) := by
  rw [List.filter_filter]
  refine List.filter_congr fun y _ => ?_
  simp only [List.mem_filter]
  by_cases h : y = x
  · subst h; simp [hx]
  · simp [h]
theorem keep_start (K0 : List Ent) (e : Ent) : (K0.filter fun y => decide (y.nm ≠ e.nm ∨ y ∈ K0)) = K0 :=
  List.filter_eq_self.2 fun y hy => by simp [hy]
theorem keep_end (K0 : List Ent) (e : Ent) : (K0.filter fun y => decide (y.nm ≠ e.nm ∨ y ∈ ([] : List Ent))) = K0.filter fun y => decide (y.nm ≠ e.nm) :=
  List.filter_congr fun y _ => by simp

/-- What comes next comes ahead of all that is left. -/
theorem next_ahead {L L' : List Ent} {x : Ent} (hn : (L.map Ent.nm).Nodup) (hp : L.Perm (x :: L')) (hl : ∀ y ∈ L, y.bef x = false) : ∀ y ∈ L', x.bef y = true := fun y hy => by
  cases h : x.bef y with
  | true => rfl
  | false =>
    have hxy := bef_total h (hl y (hp.symm.subset (List.mem_cons_of_mem _ hy)))
    have := (hp.map Ent.nm).nodup_iff.1 hn
    rw [List.map_cons, List.nodup_cons] at this
    exact absurd (List.mem_map.2 ⟨y, hy, by rw [hxy]⟩) this.1
end Go.Proofs.Ytgabgdeakeliaaa
