/- A region that draws its order, walked in the order of its text: the judgement that a proof works with. -/
import Derived.Test.YtcocmljollnpdaaDoorDmText
import Derived.Deep.QuietTactic
import Derived.BigQuiet
import Derived.WalkKit
import Derived.KernelRfl
namespace Go.Dm

section
variable {P : Program}
def OnlyValue (P : Program) (s : Sem Next) : Prop := ∀ n w w', s.run P w = .ok n w' → ∃ v, n = .value v
theorem OnlyValue.bind {α : Type} (e : Sem α) (f : α → Sem Next) (h : ∀ a, OnlyValue P (f a)) : OnlyValue P (e >>= f) := by
  intro n w w' hr
  rw [Sem.run_bind] at hr
  cases he : e.run P w with
  | ok a w1 => rw [he] at hr; exact h a n w1 w' hr
  | halt x w1 => rw [he] at hr; cases hr
theorem OnlyValue.pure (v : Value) : OnlyValue P (Pure.pure (Next.value v)) := by
  intro n w w' hr
  injection hr with h1
  exact ⟨v, h1.symm⟩
end

section
variable {P : Program} {cl : List Nat} {ops : Array Oper}

theorem OnlyValue.halts {s : Sem Next} (h : ∀ w, ∃ x w', s.run P w = .halt x w') : OnlyValue P s := by
  intro n w w' hr
  obtain ⟨x, w1, hx⟩ := h w
  rw [hx] at hr; cases hr

theorem onlyValue_nil : OnlyValue P (runtimePanic .nilDeref : Sem Next) := by
  intro n w w' hr
  have : (runtimePanic .nilDeref : Sem Next).run P w = .halt (.panic (.iface P.rt.errorString (strVal "invalid memory address or nil pointer dereference"))) w := rfl
  rw [this] at hr; cases hr

theorem onlyValue_cls (ρ : Operand → Value) (o : Oper) (h : clsOp o.op ≤ 1) : OnlyValue P (execOp ρ o) := by
  obtain ⟨dst, op, type, pos, after, guard⟩ := o
  cases op <;> simp only [clsOp] at h
  case move x => exact OnlyValue.pure _
  case assign x => exact OnlyValue.pure _
  case nilCheck x =>
    unfold execOp
    simp only
    split
    · exact onlyValue_nil
    · exact onlyValue_nil
    · exact onlyValue_nil
    · split
      · exact onlyValue_nil
      · refine OnlyValue.bind _ _ fun p => OnlyValue.bind _ _ fun r => ?_
        split
        · exact OnlyValue.bind _ _ fun _ => OnlyValue.pure _
        · exact OnlyValue.pure _
      · exact OnlyValue.pure _
    · exact OnlyValue.pure _
  case call c =>
    obtain ⟨callee, args, tys⟩ := c
    cases callee with
    | builtin b =>
      rw [BigFrame.execOp_builtin]
      cases b <;> first | (simp at h; done) | (rw [BigFrame.builtin_len]; exact OnlyValue.bind _ _ fun _ => OnlyValue.pure _) | (rw [BigFrame.builtin_cap]; exact OnlyValue.bind _ _ fun _ => OnlyValue.pure _)
    | value f => simp at h
    | invoke r m => simp at h
  all_goals first
    | exact OnlyValue.bind _ _ fun _ => OnlyValue.pure _
    | (simp at h; done)

theorem Flo.of_quiet {C : World → Prop} {o : Oper} {a : Act} {v : Value} (hc : clsOp o.op ≤ 1) (hw : Region.wanted o (yielded ops a.tmps) = true) {u : World} (h : o.quietAt P a C u v) : Flo P ops o v a u := by
  have hv := onlyValue_cls (P := P) a.eval o hc
  unfold Oper.quietAt at h
  generalize hr : (execOp a.eval o).run P u = r at h
  cases r with
  | ok n w' =>
    obtain ⟨v', rfl⟩ := hv n u w' hr
    simp only [Oper.quietUpon] at h
    obtain ⟨rfl, rfl⟩ := h
    exact .inl ⟨hw, .inl hr⟩
  | halt x w' => simp only [Oper.quietUpon] at h

/-- The judgement: the rest of a region, from operation k on. 0: it computes in whatever world; 1: it reads, in whatever world of C; else one step of the walk. -/
def seg (P : Program) (cl : List Nat) (ops : Array Oper) (C : World → Prop) (Q : Act → World → Prop) : Nat → List Oper → Act → World → Prop
  | _, [], a, w => Q a w
  | k, o :: l, a, w =>
    match clsAt cl k with
    | 0 => wpQuiet P ops (fun _ => True) (fun a' => seg P cl ops C Q (k + 1) l a' w) [o] a
    | 1 => wpQuiet P ops C (fun a' => seg P cl ops C Q (k + 1) l a' w) [o] a
    | _ => wpList P ops (strict fun a' w' => (needs cl (masks ops) k = true → C w') ∧ seg P cl ops C Q (k + 1) l a' w') [o] a w

theorem seg_zero {C : World → Prop} {Q : Act → World → Prop} {k : Nat} {o : Oper} {l : List Oper} {a : Act} {w : World} (h : clsAt cl k = 0) :
    seg P cl ops C Q k (o :: l) a w = wpQuiet P ops (fun _ => True) (fun a' => seg P cl ops C Q (k + 1) l a' w) [o] a := by rw [seg]; simp only [h]
theorem seg_one {C : World → Prop} {Q : Act → World → Prop} {k : Nat} {o : Oper} {l : List Oper} {a : Act} {w : World} (h : clsAt cl k = 1) :
    seg P cl ops C Q k (o :: l) a w = wpQuiet P ops C (fun a' => seg P cl ops C Q (k + 1) l a' w) [o] a := by rw [seg]; simp only [h]
theorem seg_two {C : World → Prop} {Q : Act → World → Prop} {k : Nat} {o : Oper} {l : List Oper} {a : Act} {w : World} (h : clsAt cl k = 2) :
    seg P cl ops C Q k (o :: l) a w = wpList P ops (strict fun a' w' => (needs cl (masks ops) k = true → C w') ∧ seg P cl ops C Q (k + 1) l a' w') [o] a w := by rw [seg]; simp only [h]

theorem seg_txt {C : World → Prop} {Q : Act → World → Prop} (hp : Plan cl ops (masks ops)) : ∀ (l : List Oper) (k : Nat) (a : Act) (w : World),
    (∀ j, l[j]? = ops[k + j]?) → seg P cl ops C Q k l a w → txt P cl ops (masks ops) C Q (List.range' k l.length) a w := by
  intro l
  induction l with
  | nil => intro k a w _ h; exact h
  | cons o l ih =>
    intro k a w hl h
    have ho : ops[k]? = some o := by simpa using (hl 0).symm
    have hl' : ∀ j, l[j]? = ops[k + 1 + j]? := fun j => by have := hl (j + 1); simpa [Nat.add_assoc, Nat.add_comm 1 j] using this
    rw [List.length_cons, List.range'_succ]
    unfold seg at h
    refine ⟨o, ho, ?_⟩
    have quiet : ∀ (D : World → Prop), clsAt cl k ≠ 2 → wpQuiet P ops D (fun a' => seg P cl ops C Q (k + 1) l a' w) [o] a →
        ∃ v, (∀ u, D u → Flo P ops o v a u) ∧ txt P cl ops (masks ops) C Q (List.range' (k + 1) l.length) (a.put o.dst v) w := by
      intro D hc hq
      have h1 : clsOp o.op ≤ 1 := (hp.low1 k o ho).resolve_left hc
      unfold wpQuiet at hq
      split at hq
      · rename_i hw
        obtain ⟨v, hv, hk⟩ := hq
        exact ⟨v, fun u hu => Flo.of_quiet h1 hw (hv u hu), ih _ _ _ hl' hk⟩
      · rename_i hw
        exact ⟨undef, fun u _ => .inr ⟨by simpa using hw, rfl⟩, ih _ _ _ hl' hq⟩
    split at h
    · rename_i hc
      obtain ⟨v, hv, ht⟩ := quiet _ (by rw [hc]; decide) h
      exact .inl ⟨hc, v, fun u => hv u trivial, ht⟩
    · rename_i hc
      obtain ⟨v, hv, ht⟩ := quiet _ (by rw [hc]; decide) h
      exact .inr (.inl ⟨hc, v, hv, ht⟩)
    · rename_i h0 h1
      by_cases hc : clsAt cl k = 2
      · refine .inr (.inr ⟨hc, effStep_mono (fun a' w' hh => ⟨hh.1, ih _ _ _ hl' hh.2⟩) (effStep_of_wpList h)⟩)
      · -- another number than 0, 1, 2: the check bars it only where two effects meet: read as 2
        exfalso
        have h2 := hp.le2 k o ho
        have n0 : clsAt cl k ≠ 0 := h0
        have n1 : clsAt cl k ≠ 1 := h1
        omega

/-- Several operations that read, in one go. -/
theorem seg_quiet {C : World → Prop} {Q : Act → World → Prop} {w : World} : ∀ (b : List Oper) (k : Nat) (l : List Oper) (a : Act), ((List.range' k b.length).all fun i => clsAt cl i == 1) = true →
    wpQuiet P ops C (fun a' => seg P cl ops C Q (k + b.length) l a' w) b a → seg P cl ops C Q k (b ++ l) a w := by
  intro b
  induction b with
  | nil => intro k l a _ h; simpa [wpQuiet] using h
  | cons o b ih =>
    intro k l a hc h
    rw [List.length_cons, List.range'_succ, List.all_cons, Bool.and_eq_true, beq_iff_eq] at hc
    rw [List.cons_append]
    rw [seg_one hc.1]
    have e : k + (o :: b).length = k + 1 + b.length := by rw [List.length_cons]; omega
    rw [e] at h
    unfold wpQuiet at h ⊢
    split
    · rename_i hw
      rw [if_pos hw] at h
      obtain ⟨v, hv, h⟩ := h
      exact ⟨v, hv, ih _ _ _ hc.2 h⟩
    · rename_i hw
      rw [if_neg hw] at h
      exact ih _ _ _ hc.2 h

theorem seg_reads (n : Nat) {C : World → Prop} {Q : Act → World → Prop} {w : World} {k : Nat} {l : List Oper} {a : Act} (hn : n ≤ l.length) (hc : ((List.range' k n).all fun i => clsAt cl i == 1) = true)
    (h : wpQuiet P ops C (fun a' => seg P cl ops C Q (k + n) (l.drop n) a' w) (l.take n) a) : seg P cl ops C Q k l a w := by
  have hl : (l.take n).length = n := by rw [List.length_take]; omega
  have := seg_quiet (P := P) (cl := cl) (ops := ops) (C := C) (Q := Q) (w := w) (l.take n) k (l.drop n) a (by rw [hl]; exact hc) (by rw [hl]; exact h)
  rwa [List.take_append_drop] at this

/-- The rest are steps behind which nothing is read any more in another order. -/
theorem seg_list {C : World → Prop} {Q : Act → World → Prop} {Q' : Exit → Act → World → Prop} (hQ : ∀ a w, Q' .normal a w → Q a w) (hQ' : ∀ e a w, e ≠ .normal → ¬ Q' e a w) :
    ∀ (l : List Oper) (k : Nat) (a : Act) (w : World), ((List.range' k l.length).all fun i => clsAt cl i == 2 && !needs cl (masks ops) i) = true →
    wpList P ops Q' l a w → seg P cl ops C Q k l a w := by
  intro l
  induction l with
  | nil => intro k a w _ h; exact hQ _ _ h
  | cons o l ih =>
    intro k a w hc h
    rw [List.length_cons, List.range'_succ, List.all_cons, Bool.and_eq_true, Bool.and_eq_true, beq_iff_eq] at hc
    rw [seg_two hc.1.1]
    have hn : needs cl (masks ops) k = true → C w → False := by intro h1; simp [h1] at hc
    have hout : ¬ LetsOut Q' := fun ⟨a, w, h⟩ => hQ' _ a w (by simp) h
    have conv : ∀ a' w', wpList P ops Q' l a' w' → ((needs cl (masks ops) k = true → C w') ∧ seg P cl ops C Q (k + 1) l a' w') := fun a' w' hh =>
      ⟨fun h1 => by simp [h1] at hc, ih _ _ _ hc.2 hh⟩
    unfold wpList at h ⊢
    split
    · rename_i hw
      rw [if_pos hw] at h
      refine .inl ?_
      rcases h with h | ⟨_, h⟩
      · unfold Oper.wp at h ⊢
        generalize (execOp a.eval o).run P w = r at *
        cases r with
        | ok n w' =>
          cases n <;> simp only [Oper.upon] at h ⊢ <;>
            first
              | exact conv _ _ h
              | exact Calls.mono h (fun e w'' he => by
                  cases e
                  · exact conv _ _ he
                  · exact (hQ' _ _ _ (by simp) he).elim
                  · exact (hout he).elim)
              | exact Rows.mono h (fun _ _ he => conv _ _ he)
        | halt x w' => cases x <;> simp only [Oper.upon] at h ⊢ <;> exact (hQ' _ _ _ (by simp) h).elim
      · exact (hout h).elim
    · rename_i hw
      rw [if_neg hw] at h
      exact conv _ _ h

theorem seg_list' {C : World → Prop} {Q : Act → World → Prop} (l : List Oper) (k : Nat) (a : Act) (w : World) (hc : ((List.range' k l.length).all fun i => clsAt cl i == 2 && !needs cl (masks ops) i) = true)
    (h : wpList P ops (strict Q) l a w) : seg P cl ops C Q k l a w :=
  seg_list (Q' := strict Q) (fun _ _ h => h) (fun e a w he h => by cases e <;> first | exact he rfl | exact h) l k a w hc h

/-- One step behind which something is read. -/
theorem seg_eff {C : World → Prop} {Q : Act → World → Prop} {o : Oper} {l : List Oper} {k : Nat} {a : Act} {w : World} (hc : clsAt cl k = 2)
    (h : wpList P ops (strict fun a' w' => C w' ∧ seg P cl ops C Q (k + 1) l a' w') [o] a w) : seg P cl ops C Q k (o :: l) a w := by
  rw [seg_two hc]
  have := effStep_of_wpList h
  have h2 := effStep_mono (K' := fun a' w' => (needs cl (masks ops) k = true → C w') ∧ seg P cl ops C Q (k + 1) l a' w') (fun a' w' hh => ⟨fun _ => hh.1, hh.2⟩) this
  unfold effStep at h2
  unfold wpList
  split
  · rename_i hw; rw [if_pos hw] at h2; exact .inl (upon_strict_mono (fun _ _ h => h) h2)
  · rename_i hw; rw [if_neg hw] at h2; exact h2

/-- One step behind which nothing is read in another order. -/
theorem seg_step {C : World → Prop} {Q : Act → World → Prop} {o : Oper} {l : List Oper} {k : Nat} {a : Act} {w : World} (hc : (clsAt cl k == 2 && !needs cl (masks ops) k) = true)
    (h : wpList P ops (strict fun a' w' => seg P cl ops C Q (k + 1) l a' w') [o] a w) : seg P cl ops C Q k (o :: l) a w := by
  rw [Bool.and_eq_true, beq_iff_eq] at hc
  rw [seg_two hc.1]
  have h2 := effStep_mono (K' := fun a' w' => (needs cl (masks ops) k = true → C w') ∧ seg P cl ops C Q (k + 1) l a' w') (fun a' w' hh => ⟨fun h1 => by simp [h1] at hc, hh⟩) (effStep_of_wpList h)
  unfold effStep at h2
  unfold wpList
  split
  · rename_i hw; rw [if_pos hw] at h2; exact .inl (upon_strict_mono (fun _ _ h => h) h2)
  · rename_i hw; rw [if_neg hw] at h2; exact h2

/-- One operation that computes, in whatever world. -/
theorem seg_free {C : World → Prop} {Q : Act → World → Prop} {o : Oper} {l : List Oper} {k : Nat} {a : Act} {w : World} (hc : clsAt cl k = 0)
    (h : wpQuiet P ops (fun _ => True) (fun a' => seg P cl ops C Q (k + 1) l a' w) [o] a) : seg P cl ops C Q k (o :: l) a w := by
  rw [seg_zero hc]
  exact h

theorem wp_region_seg {id : Nat} {Q : Exit → Act → World → Prop} {l : List Oper} {a : Act} {w : World} (cl : List Nat) (hm : P.follows .mixedOrders = true) (hp : planOk cl l.toArray = true) (C : World → Prop) (hC : C w.drew)
    (h : seg P cl l.toArray C (Q .normal) 0 l a w.drew) : (Code.region id l.toArray true).wp P Q a w := by
  refine wp_region_txt (cl := cl) hm hp C hC ?_
  have := seg_txt (planOk_spec hp) l 0 a w.drew (fun j => by simp) h
  rwa [List.range_eq_range', show l.toArray.size = l.length from by simp]

theorem wp_region_segR {id : Nat} {Q : Exit → Act → World → Prop} {l : List Oper} {a : Act} {w : World} (cl : List Nat) (hm : P.follows .mixedOrders = true) (hp : planOk cl l.toArray = true)
    (h : seg P cl l.toArray (fun u => ∃ n, u = w.drew.drewN n) (Q .normal) 0 l a w.drew) : (Code.region id l.toArray true).wp P Q a w :=
  wp_region_seg cl hm hp _ ⟨0, rfl⟩ h
end
theorem strict_then {K : Act → World → Prop} {Q' : Exit → Act → World → Prop} {a : Act} {w : World} (h : K a w) : strict ((Exit.then K Q') .normal) .normal a w := h
theorem strict_intro {K : Act → World → Prop} {a : Act} {w : World} (h : K a w) : strict K .normal a w := h
theorem seg_nil_then {P : Program} {cl : List Nat} {ops : Array Oper} {C : World → Prop} {k : Nat} {K : Act → World → Prop} {Q' : Exit → Act → World → Prop} {a : Act} {w : World} (h : K a w) : seg P cl ops C ((Exit.then K Q') .normal) k [] a w := h
theorem seg_nil_intro {P : Program} {cl : List Nat} {ops : Array Oper} {C : World → Prop} {k : Nat} {K : Act → World → Prop} {a : Act} {w : World} (h : K a w) : seg P cl ops C K k [] a w := h
end Go.Dm
