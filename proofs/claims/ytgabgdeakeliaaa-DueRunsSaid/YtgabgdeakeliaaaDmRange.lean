/- A loop over a map, the round's own deletions with it. -/
import Derived.Test.YtgabgdeakeliaaaDmMem
import Derived.Maps.Range
namespace Go.Dm
open Go.RowKit
set_option linter.unusedVariables false
set_option linter.unusedSimpArgs false

section
variable {P : Program} {K : TypeId} {α : Type} [DecidableEq α]

/-- A loop over the map in block b is under way; its iterator lies in block r; left: the keys that are still to come. -/
structure Ranges (E : KE P K α) (w : World) (b r : Nat) (l : List (α × Value)) (left : List α) : Prop where
  map : MapIs E w b l
  it : ∃ es clock since seen c0, w.heap[b]? = some (.map es clock) ∧ w.heap[r]? = some (.mapIter (some b) since seen c0) ∧ (∀ x ∈ es.toList, x.born < since) ∧ since ≤ c0 ∧ since ≤ clock ∧
    (∀ x ∈ es.toList, seen.contains x.born = false ↔ ∃ a ∈ left, x.key = E.enc a) ∧ ∀ a ∈ left, a ∈ akeys l

omit [DecidableEq α] in
theorem MapIs.at {E : KE P K α} {w : World} {b : Nat} {l : List (α × Value)} (h : MapIs E w b l) {es : Array MapEntry} {clock : Nat} (hb : w.heap[b]? = some (.map es clock)) :
    es.toList.map (fun e => (e.key, e.val)) = l.map (fun p => (E.enc p.1, p.2)) ∧ (es.toList.map (·.born)).Pairwise (· < ·) ∧ (∀ e ∈ es.toList, e.born < clock) := by
  obtain ⟨es', clock', h1, h2, h3, h4, _⟩ := h
  rw [h1] at hb
  injection hb with hb
  injection hb with e1 e2
  subst e1; subst e2
  exact ⟨h2, h3, h4⟩
omit [DecidableEq α] in
theorem MapIs.keys {E : KE P K α} {w : World} {b : Nat} {l : List (α × Value)} (h : MapIs E w b l) : (akeys l).Nodup := by
  obtain ⟨_, _, _, _, _, _, h5, _⟩ := h
  exact h5

omit [DecidableEq α] in
theorem mem_entry {E : KE P K α} {es : List MapEntry} {l : List (α × Value)} (h : es.map (fun e => (e.key, e.val)) = l.map (fun p => (E.enc p.1, p.2))) {x : MapEntry} (hx : x ∈ es) : ∃ p ∈ l, x.key = E.enc p.1 ∧ x.val = p.2 := by
  have : (x.key, x.val) ∈ l.map (fun p => (E.enc p.1, p.2)) := by rw [← h]; exact List.mem_map.2 ⟨x, hx, rfl⟩
  obtain ⟨p, hp, he⟩ := List.mem_map.1 this
  simp only [Prod.mk.injEq] at he
  exact ⟨p, hp, he.1.symm, he.2.symm⟩
omit [DecidableEq α] in
theorem mem_key {E : KE P K α} {es : List MapEntry} {l : List (α × Value)} (h : es.map (fun e => (e.key, e.val)) = l.map (fun p => (E.enc p.1, p.2))) {a : α} (ha : a ∈ akeys l) : ∃ x ∈ es, x.key = E.enc a := by
  obtain ⟨p, hp, rfl⟩ := List.mem_map.1 ha
  have : (E.enc p.1, p.2) ∈ es.map (fun e => (e.key, e.val)) := by rw [h]; exact List.mem_map.2 ⟨p, hp, rfl⟩
  obtain ⟨x, hx, he⟩ := List.mem_map.1 this
  simp only [Prod.mk.injEq] at he
  exact ⟨x, hx, he.1⟩
omit [DecidableEq α] in
/-- Two entries with one key are one. -/
theorem same_key {E : KE P K α} : ∀ {es : List MapEntry} {l : List (α × Value)}, es.map (fun e => (e.key, e.val)) = l.map (fun p => (E.enc p.1, p.2)) → (akeys l).Nodup → ∀ {x y : MapEntry}, x ∈ es → y ∈ es → x.key = y.key → x = y
  | [], _, _, _, _, _, hx, _, _ => by simp at hx
  | e :: es, [], h, _, _, _, _, _, _ => by simp at h
  | e :: es, p :: l, h, hn, x, y, hx, hy, hk => by
    simp only [List.map_cons, List.cons.injEq, Prod.mk.injEq] at h
    obtain ⟨⟨h1, _⟩, h2⟩ := h
    obtain ⟨n1, n2⟩ := List.nodup_cons.1 (show (p.1 :: akeys l).Nodup from hn)
    have key : ∀ z ∈ es, z.key ≠ e.key := fun z hz he => by
      obtain ⟨q, hq, hzq, _⟩ := mem_entry h2 hz
      have : q.1 = p.1 := E.inj _ _ (by rw [← hzq, he, h1])
      exact n1 (this ▸ List.mem_map.2 ⟨q, hq, rfl⟩)
    rcases List.mem_cons.1 hx with rfl | hx'
    · rcases List.mem_cons.1 hy with rfl | hy'
      · rfl
      · exact absurd hk.symm (key y hy')
    · rcases List.mem_cons.1 hy with rfl | hy'
      · exact absurd hk (key x hx')
      · exact same_key h2 n2 hx' hy' hk

omit [DecidableEq α] in
theorem Ranges.ne {E : KE P K α} {w : World} {b r : Nat} {l : List (α × Value)} {left : List α} (h : Ranges E w b r l left) : r ≠ b := by
  obtain ⟨_, es, clock, since, seen, c0, hb, hr, _⟩ := h
  rintro rfl
  rw [hb] at hr
  cases hr
omit [DecidableEq α] in
theorem Ranges.lt {E : KE P K α} {w : World} {b r : Nat} {l : List (α × Value)} {left : List α} (h : Ranges E w b r l left) : r < w.heap.size := by
  obtain ⟨_, es, clock, since, seen, c0, hb, hr, _⟩ := h
  exact blk_lt hr
omit [DecidableEq α] in
theorem Ranges.only {E : KE P K α} {S : Nat → Prop} {w w' : World} {b r : Nat} {l : List (α × Value)} {left : List α} (h : Ranges E w b r l left) (ho : Only S w w') (h1 : ¬ S b) (h2 : ¬ S r) : Ranges E w' b r l left ∧ w'.rangeLeft b r = w.rangeLeft b r := by
  obtain ⟨hm, es, clock, since, seen, c0, hb, hr, rest⟩ := h
  exact ⟨⟨hm.only ho h1, es, clock, since, seen, c0, ho.blk hb h1, ho.blk hr h2, rest⟩, by unfold World.rangeLeft; rw [ho.blk hb h1, ho.blk hr h2, hb, hr]⟩

omit [DecidableEq α] in
/-- range m. -/
theorem MapIs.range {E : KE P K α} {w : World} {b : Nat} {l : List (α × Value)} (h : MapIs E w b l) {T e : TypeId} (ht : P.underlying T = some (.map K e)) :
    ∃ o, (Instr.range T (.map (some b))).run P w = .ok (.pointer (some ⟨w.heap.size, 0, none⟩)) (w.alloc o) ∧ Ranges E (w.alloc o) b w.heap.size l (akeys l) := by
  have h0 := h
  obtain ⟨es, clock, h1, h2, h3, h4, h5, h6⟩ := h
  refine ⟨.mapIter (some b) clock #[] clock, run_range_map w T K e b es clock ht h1, ?_⟩
  refine ⟨h0.only ((Only.refl (fun _ => False) w).alloc _) id, es, clock, clock, #[], clock, blk_alloc_old h1, blk_alloc_new, h4, Nat.le_refl _, Nat.le_refl _, fun x hx => ?_, fun a ha => ha⟩
  obtain ⟨p, hp, hk, _⟩ := mem_entry h2 hx
  exact ⟨fun _ => ⟨p.1, List.mem_map.2 ⟨p, hp, rfl⟩, hk⟩, fun _ => by simp⟩

/-- The step. -/
theorem Ranges.next {E : KE P K α} {w : World} {b r : Nat} {l : List (α × Value)} {left : List α} (h : Ranges E w b r l left) (ty : TypeId) :
    (left = [] ∧ (Instr.next (.pointer (some ⟨r, 0, none⟩)) false ty).run P w = .ok (.tuple #[.bool false]) w) ∨
    ∃ a v w', a ∈ left ∧ aget l a = some v ∧ (Instr.next (.pointer (some ⟨r, 0, none⟩)) false ty).run P w = .ok (.tuple #[.bool true, E.enc a, v]) w' ∧ Ranges E w' b r l (left.filter fun c => !decide (c = a)) ∧
      Only (fun c => c = r) w w' ∧ w'.heap.size = w.heap.size ∧ w'.rangeLeft b r < w.rangeLeft b r ∧ (Instr.entry (.pointer (some ⟨r, 0, none⟩))).run P w' = .ok (.tuple #[E.enc a, v]) w' := by
  have hne := h.ne
  obtain ⟨hm, es, clock, since, seen, c0, hb, hr, hold, hsc, hsk, hl1, hl2⟩ := h
  obtain ⟨h2, h3, h4⟩ := hm.at hb
  have h5 := hm.keys
  rcases run_next_at (P := P) w ty r b since c0 seen es clock hr hb hold hsc with ⟨h0, hrun⟩ | ⟨e, he, w1, hal, hrun⟩
  · refine .inl ⟨?_, hrun⟩
    cases left with
    | nil => rfl
    | cons a left =>
      obtain ⟨x, hx, hk⟩ := mem_key h2 (hl2 a List.mem_cons_self)
      have := (hl1 x hx).2 ⟨a, List.mem_cons_self, hk⟩
      rw [all_seen es seen h0 x hx] at this
      cases this
  · obtain ⟨hem, hes⟩ := mem_left he
    obtain ⟨a, ha, hka⟩ := (hl1 e hem).1 hes
    obtain ⟨p, hp, hkp, hvp⟩ := mem_entry h2 hem
    have hpa : p.1 = a := E.inj _ _ (hkp.symm.trans hka)
    have hr1 : w1.heap[r]? = some (.mapIter (some b) since seen c0) := by rcases hal with rfl | rfl <;> exact hr
    have hb1 : w1.heap[b]? = some (.map es clock) := by rcases hal with rfl | rfl <;> exact hb
    have hsz1 : w1.heap.size = w.heap.size := by rcases hal with rfl | rfl <;> rfl
    have ho1 : Only (fun c => c = r) w w1 := by
      rcases hal with rfl | rfl
      · exact Only.refl _ _
      · exact (Only.refl _ _).drew
    have hr2 : (setBlk w1 r (.mapIter (some b) since (seen.push e.born) clock)).heap[r]? = _ := setBlk_same hr1
    have hb2 : (setBlk w1 r (.mapIter (some b) since (seen.push e.born) clock)).heap[b]? = some (.map es clock) := by rw [setBlk_other hne]; exact hb1
    have ho2 : Only (fun c => c = r) w (setBlk w1 r (.mapIter (some b) since (seen.push e.born) clock)) := ho1.setBlk (fun _ => rfl) _
    have hnd : (es.toList.map (·.born)).Nodup := h3.imp (fun h => Nat.ne_of_lt h)
    refine .inr ⟨a, e.val, setBlk w1 r (.mapIter (some b) since (seen.push e.born) clock), ha, ?_, by rw [← hka]; exact hrun, ⟨hm.only ho2 (Ne.symm hne), es, clock, since, seen.push e.born, clock, hb2, hr2, hold, hsk, hsk, fun x hx => ?_, fun c hc => hl2 c (List.mem_filter.1 hc).1⟩, ho2, by rw [size_setBlk, hsz1], ?_, by rw [← hka]; exact run_entry_at _ r b since seen es clock e hr2 hb2 hem hnd⟩
    · rw [hvp, ← hpa]
      exact aget_some_of_mem h5 hp
    · rw [contains_push, Bool.or_eq_false_iff, hl1 x hx]
      constructor
      · rintro ⟨⟨c, hc, hk⟩, hbe⟩
        refine ⟨c, List.mem_filter.2 ⟨hc, ?_⟩, hk⟩
        have : c ≠ a := by
          rintro rfl
          have := same_key h2 h5 hx hem (hk.trans hka.symm)
          rw [this] at hbe
          simp at hbe
        simp [this]
      · rintro ⟨c, hc, hk⟩
        obtain ⟨hc1, hc2⟩ := List.mem_filter.1 hc
        refine ⟨⟨c, hc1, hk⟩, ?_⟩
        have hca : c ≠ a := by simpa using hc2
        have : x.born ≠ e.born := fun hbe => by
          have := born_inj hnd hx hem hbe
          rw [this, hka] at hk
          exact hca (E.inj _ _ hk).symm
        simp [this]
    · unfold World.rangeLeft
      rw [hb2, hr2, hb, hr]
      exact left_shrinks es seen e he

/-- delete(m, k): what is there behind it was there. -/
theorem MapIs.delete_sub {E : KE P K α} {w : World} {b : Nat} {l : List (α × Value)} (h : MapIs E w b l) {T e rt : TypeId} {tys : Array TypeId} (ht : P.underlying T = some (.map K e)) (hty : tys[0]? = some T) (a : α) (ha : E.ok a) {es0 : Array MapEntry} {clock0 : Nat} (hb : w.heap[b]? = some (.map es0 clock0)) :
    ∃ es', (Builtin.delete_ tys rt #[.map (some b), E.enc a]).run P w = .ok (.tuple #[]) (setBlk w b (.map es' clock0)) ∧ MapIs E (setBlk w b (.map es' clock0)) b (adel l a) ∧ es'.toList.Sublist es0.toList := by
  have h0 := h
  obtain ⟨es, clock, h1, h2, h3, h4, h5, h6⟩ := h
  obtain ⟨rfl, rfl⟩ : es = es0 ∧ clock = clock0 := by rw [h1] at hb; injection hb with hb; injection hb with e1 e2; exact ⟨e1, e2⟩
  have hc := E.check w es.isEmpty a ha
  have hset : ∀ o, (setObj b o).run P w = .ok () (setBlk w b o) := fun o => by
    unfold setObj; simp only [Sem.run, h1]; rfl
  unfold Builtin.delete_
  simp only [hty, List.getElem?_toArray, List.getElem?_cons_zero, List.getElem?_cons_succ]
  simp only [bind, Sem.run_bind', run_underlying ht, Result.andThen_ok, getObj, Sem.run, h1, pure]
  simp only [Sem.bind, Sem.run_bind', Sem.run, h1, Result.andThen_ok, hc]
  rcases MapIs.find h2 h5 h6 w a ha with ⟨hf, hh⟩ | ⟨j, e', v', hf, hj, hlj, hk, hv⟩
  · rw [hf]
    refine ⟨es, ?_, map_setBlk h0 ?_ h3 h4 (nodup_adel h5) ?_, List.Sublist.refl _⟩
    · simp only [Result.andThen_ok, Sem.run_bind', hset, Sem.run]
    · have : adel l a = l := by
        unfold adel
        refine List.filter_eq_self.2 fun p hp => ?_
        have : p.1 ≠ a := fun e => by
          have := ahas_iff.2 (List.mem_map.2 ⟨p, hp, e⟩ : a ∈ akeys l)
          rw [hh] at this; cases this
        simp [this]
      rw [this]; exact h2
    · intro x hx
      rw [akeys_adel] at hx
      exact h6 x (List.mem_filter.1 hx).1
  · rw [hf]
    have hej : es[j]? = some e' := by simpa using hj
    have hjs : j < es.size := (Array.getElem?_eq_some_iff.1 hej).1
    have hjl : j < l.length := (List.getElem?_eq_some_iff.1 hlj).1
    have hdel : adel l a = l.eraseIdx j := by
      unfold adel
      have hnk : ∀ i p, l[i]? = some p → i ≠ j → p.1 ≠ a := fun i p hli hij e => hij (by
        obtain ⟨hi1, hi2⟩ := List.getElem?_eq_some_iff.1 hli
        obtain ⟨hj1, hj2⟩ := List.getElem?_eq_some_iff.1 hlj
        have hk1 : (akeys l)[i]'(by simpa [akeys] using hi1) = a := by simp [akeys, hi2, e]
        have hk2 : (akeys l)[j]'(by simpa [akeys] using hj1) = a := by simp [akeys, hj2]
        exact ((List.getElem_inj (h₀ := by simpa [akeys] using hi1) (h₁ := by simpa [akeys] using hj1) h5).1 (hk1.trans hk2.symm)))
      rw [List.eraseIdx_eq_take_drop_succ]
      conv => lhs; rw [← List.take_append_drop j l, List.drop_eq_getElem_cons hjl]
      have hlj' : l[j] = (a, v') := (List.getElem?_eq_some_iff.1 hlj).2
      rw [List.filter_append, List.filter_cons, hlj']
      simp only [ne_eq, not_true_eq_false, decide_false, Bool.false_eq_true, if_false]
      congr 1
      · refine List.filter_eq_self.2 fun p hp => ?_
        obtain ⟨i, hi⟩ := List.mem_iff_getElem?.1 hp
        rw [List.getElem?_take] at hi
        split at hi
        · rename_i hij
          simp [hnk i p hi (by omega)]
        · cases hi
      · refine List.filter_eq_self.2 fun p hp => ?_
        obtain ⟨i, hi⟩ := List.mem_iff_getElem?.1 hp
        rw [List.getElem?_drop] at hi
        simp [hnk _ p hi (by omega)]
    have hes : (es.eraseIdxIfInBounds j).toList = es.toList.eraseIdx j := by
      rw [Array.eraseIdxIfInBounds_eq]
      simp [hjs]
    refine ⟨es.eraseIdxIfInBounds j, ?_, map_setBlk h0 ?_ ?_ ?_ (nodup_adel h5) ?_, by rw [hes]; exact List.eraseIdx_sublist _ _⟩
    · simp only [Result.andThen_ok, Sem.run_bind', hset, Sem.run]
    · rw [hes, hdel, map_erase, map_erase, h2]
    · rw [hes, map_erase]
      exact h3.sublist (List.eraseIdx_sublist _ _)
    · intro e he
      rw [hes] at he
      exact h4 e ((List.eraseIdx_sublist _ _).mem he)
    · intro x hx
      rw [akeys_adel] at hx
      exact h6 x (List.mem_filter.1 hx).1

theorem Ranges.delete {E : KE P K α} {w : World} {b r : Nat} {l : List (α × Value)} {left : List α} (h : Ranges E w b r l left) {T e rt : TypeId} {tys : Array TypeId} (ht : P.underlying T = some (.map K e)) (hty : tys[0]? = some T) (a : α) (ha : E.ok a) :
    ∃ o, (Builtin.delete_ tys rt #[.map (some b), E.enc a]).run P w = .ok (.tuple #[]) (setBlk w b o) ∧ Ranges E (setBlk w b o) b r (adel l a) (left.filter fun c => !decide (c = a)) ∧ (setBlk w b o).rangeLeft b r ≤ w.rangeLeft b r := by
  have hne := h.ne
  obtain ⟨hm, es, clock, since, seen, c0, hb, hr, hold, hsc, hsk, hl1, hl2⟩ := h
  obtain ⟨es', hrun, hm', hsub⟩ := hm.delete_sub (rt := rt) ht hty a ha hb
  have hb2 : (setBlk w b (.map es' clock)).heap[b]? = some (.map es' clock) := setBlk_same hb
  have hr2 : (setBlk w b (.map es' clock)).heap[r]? = some (.mapIter (some b) since seen c0) := by rw [setBlk_other (Ne.symm hne)]; exact hr
  refine ⟨_, hrun, ⟨hm', es', clock, since, seen, c0, hb2, hr2, fun x hx => hold x (hsub.mem hx), hsc, hsk, fun x hx => ?_, fun c hc => ?_⟩, ?_⟩
  · rw [hl1 x (hsub.mem hx)]
    obtain ⟨h2, _, _⟩ := hm'.at hb2
    obtain ⟨p, hp, hk, _⟩ := mem_entry h2 hx
    have hpa : p.1 ≠ a := by
      have := (List.mem_filter.1 hp).2
      simpa using this
    constructor
    · rintro ⟨c, hc, hkc⟩
      refine ⟨c, List.mem_filter.2 ⟨hc, ?_⟩, hkc⟩
      have : c = p.1 := E.inj _ _ (hkc.symm.trans hk)
      simp [this, hpa]
    · rintro ⟨c, hc, hkc⟩
      exact ⟨c, (List.mem_filter.1 hc).1, hkc⟩
  · obtain ⟨hc1, hc2⟩ := List.mem_filter.1 hc
    rw [akeys_adel]
    exact List.mem_filter.2 ⟨hl2 c hc1, by simpa using hc2⟩
  · unfold World.rangeLeft
    rw [hb2, hr2, hb, hr]
    show (leftOf es' seen).size ≤ (leftOf es seen).size
    have e : ∀ z : Array MapEntry, (leftOf z seen).size = (z.toList.filter fun x => !seen.contains x.born).length := fun z => by
      unfold leftOf
      rw [← Array.toList_filter, Array.length_toList]
    rw [e, e]
    exact (hsub.filter _).length_le

/-! At the operations. -/
omit [DecidableEq α] in
theorem wpl_range {ops : Array Oper} {Q : Exit → Act → World → Prop} {rest : List Oper} {o : Oper} {a : Act} {w : World} (hg : o.guard = none) (t : TypeId) (m : Operand) (hop : o.op = .range t m)
    (E : KE P K α) (e : TypeId) (ht : P.underlying t = some (.map K e)) (b : Nat) (l : List (α × Value)) (h : MapIs E w b l) (hm : a.eval m = .map (some b))
    (hK : ∀ ob, Ranges E (w.alloc ob) b w.heap.size l (akeys l) → wpList P ops Q rest (a.put o.dst (.pointer (some ⟨w.heap.size, 0, none⟩))) (w.alloc ob)) : wpList P ops Q (o :: rest) a w := by
  refine wpList_plain hg fun K' hK' => ?_
  obtain ⟨ob, hrun, hr⟩ := h.range ht
  unfold Oper.wp
  simp [execOp, hop, hm, hrun, Result.andThen]
  exact hK' _ _ (hK _ hr)

theorem wpl_next {ops : Array Oper} {Q : Exit → Act → World → Prop} {rest : List Oper} {o : Oper} {a : Act} {w : World} (hg : o.guard = none) (it : Operand) (hop : o.op = .next it false)
    (E : KE P K α) (b r : Nat) (l : List (α × Value)) (left : List α) (h : Ranges E w b r l left) (hit : a.eval it = .pointer (some ⟨r, 0, none⟩))
    (hDone : left = [] → wpList P ops Q rest (a.put o.dst (.tuple #[.bool false])) w)
    (hMore : ∀ (x : α) (v : Value) (w' : World), x ∈ left → aget l x = some v → Ranges E w' b r l (left.filter fun c => !decide (c = x)) → Only (fun c => c = r) w w' → w'.heap.size = w.heap.size → w'.rangeLeft b r < w.rangeLeft b r →
      (Instr.entry (.pointer (some ⟨r, 0, none⟩))).run P w' = .ok (.tuple #[E.enc x, v]) w' → wpList P ops Q rest (a.put o.dst (.tuple #[.bool true, E.enc x, v])) w') :
    wpList P ops Q (o :: rest) a w := by
  refine wpList_plain hg fun K' hK' => ?_
  unfold Oper.wp
  rcases h.next o.type with ⟨h0, hrun⟩ | ⟨x, v, w', h1, h2, hrun, h3, h4, h5, h6, h7⟩
  · simp [execOp, hop, hit, hrun, Result.andThen]
    exact hK' _ _ (hDone h0)
  · simp [execOp, hop, hit, hrun, Result.andThen]
    exact hK' _ _ (hMore x v w' h1 h2 h3 h4 h5 h6 h7)

/-- delete(m, k) in the round. -/
theorem wpl_delete_in {ops : Array Oper} {Q : Exit → Act → World → Prop} {rest : List Oper} {o : Oper} {a : Act} {w : World} (hg : o.guard = none) (hd : o.dst = none) (t kt : TypeId) (m k : Operand) (hop : o.op = .call { callee := .builtin .delete, args := #[m, k], argTypes := #[t, kt] })
    (E : KE P K α) (e : TypeId) (ht : P.underlying t = some (.map K e)) (b r : Nat) (l : List (α × Value)) (left : List α) (h : Ranges E w b r l left) (hm : a.eval m = .map (some b)) (key : α) (hk : a.eval k = E.enc key) (hok : E.ok key)
    (hK : ∀ ob, Ranges E (setBlk w b ob) b r (adel l key) (left.filter fun c => !decide (c = key)) → (setBlk w b ob).rangeLeft b r ≤ w.rangeLeft b r → wpList P ops Q rest a (setBlk w b ob)) : wpList P ops Q (o :: rest) a w := by
  refine wpList_plain hg fun K' hK' => ?_
  obtain ⟨ob, hrun, h1, h2⟩ := h.delete (rt := o.type) (tys := #[t, kt]) ht rfl key hok
  unfold Oper.wp execOp
  simp only [hop, resolve, invoke, builtin, bind, Sem.run_bind', pure, Sem.run, Result.andThen_ok, List.map_toArray, List.map_cons, List.map_nil, hm, hk, hrun]
  simp only [Oper.upon, hd, Act.put]
  exact hK' _ _ (hK _ h1 h2)
end
end Go.Dm
