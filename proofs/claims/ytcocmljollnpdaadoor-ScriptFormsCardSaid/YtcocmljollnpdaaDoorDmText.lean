/- A region that draws its order may be walked in the order of its text, if what may change places are operations that only compute or read. -/
import Derived.Orders
import Derived.Tactics
namespace Go.Dm

/-- Only a plain end counts. -/
def strict (K : Act → World → Prop) : Exit → Act → World → Prop
  | .normal, a, w => K a w
  | _, _, _ => False

section
variable {P : Program} {ops : Array Oper}

/-- An operation that yields a value in world u and leaves it as it is. -/
def Flo (P : Program) (ops : Array Oper) (o : Oper) (v : Value) (a : Act) (u : World) : Prop :=
  (Region.wanted o (yielded ops a.tmps) = true ∧ ((execOp a.eval o).run P u = .ok (.value v) u ∨ ((execOp a.eval o).run P u = .ok .skip u ∧ v = undef))) ∨
  (Region.wanted o (yielded ops a.tmps) = false ∧ v = undef)

theorem Flo.unique {o : Oper} {v v' : Value} {a : Act} {u : World} (h : Flo P ops o v a u) (h' : Flo P ops o v' a u) : v = v' := by
  rcases h with ⟨h1, h2 | ⟨h2, h5⟩⟩ | ⟨h1, h2⟩ <;> rcases h' with ⟨h3, h4 | ⟨h4, h6⟩⟩ | ⟨h3, h4⟩
  · rw [h2] at h4; injection h4 with h5; injection h5
  · rw [h2] at h4; injection h4 with h5; cases h5
  · rw [h1] at h3; cases h3
  · rw [h2] at h4; injection h4 with h5; cases h5
  · rw [h5, h6]
  · rw [h1] at h3; cases h3
  · rw [h1] at h3; cases h3
  · rw [h1] at h3; cases h3
  · rw [h2, h4]

theorem Flo.of_same {o : Oper} {v : Value} {a a' : Act} {u : World} (h : Flo P ops o v a u) (he : execOp a'.eval o = execOp a.eval o)
    (hw : Region.wanted o (yielded ops a'.tmps) = Region.wanted o (yielded ops a.tmps)) : Flo P ops o v a' u := by
  unfold Flo at *; rw [he, hw]; exact h

/-- One operation, whatever it does, by the walk's own words. -/
def effStep (P : Program) (ops : Array Oper) (o : Oper) (K : Act → World → Prop) (a : Act) (w : World) : Prop :=
  if Region.wanted o (yielded ops a.tmps) then o.wp P a w K (strict K) else K (a.put o.dst undef) w

theorem effStep_of_wpList {o : Oper} {K : Act → World → Prop} {a : Act} {w : World} (h : wpList P ops (strict K) [o] a w) : effStep P ops o K a w := by
  unfold effStep
  unfold wpList at h
  split
  · rename_i hw
    rw [if_pos hw] at h
    rcases h with h | ⟨_, _, _, h⟩
    · exact h
    · exact h.elim
  · rename_i hw
    rw [if_neg hw] at h
    exact h

theorem upon_strict_mono {o : Oper} {a : Act} {K K' : Act → World → Prop} {Q : Exit → Act → World → Prop} {r : Result Next}
    (h : ∀ a w, K a w → K' a w) (hh : o.upon P a K (strict K) r) : o.upon P a K' Q r := by
  cases r with
  | ok n w' =>
    cases n <;> simp only [Oper.upon] at hh ⊢ <;>
      first
        | exact h _ _ hh
        | exact Calls.mono hh (fun e w'' he => by
            cases e
            · exact h _ _ he
            · exact he.elim
            · obtain ⟨_, _, he⟩ := he; exact he.elim)
        | exact Rows.mono hh (fun _ _ he => h _ _ he)
  | halt x w' => cases x <;> simp only [Oper.upon] at hh ⊢ <;> exact hh.elim

theorem effStep_wpOp {i : Nat} {o : Oper} {K K' : Act → World → Prop} {Q : Exit → Act → World → Prop} {a : Act} {w : World} (hi : ops[i]? = some o)
    (h : ∀ a w, K a w → K' a w) (hh : effStep P ops o K a w) : wpOp P ops Q i K' a w := by
  unfold wpOp
  simp only [hi]
  unfold effStep at hh
  split
  · rename_i hw; rw [if_pos hw] at hh; exact .inl (upon_strict_mono h hh)
  · rename_i hw; rw [if_neg hw] at hh; exact h _ _ hh

theorem effStep_mono {o : Oper} {K K' : Act → World → Prop} {a : Act} {w : World} (h : ∀ a w, K a w → K' a w) (hh : effStep P ops o K a w) : effStep P ops o K' a w := by
  unfold effStep at *
  split
  · rename_i hw; rw [if_pos hw] at hh; exact upon_strict_mono h hh
  · rename_i hw; rw [if_neg hw] at hh; exact h _ _ hh

/-- What the frame looks like behind one operation. -/
def After (o : Oper) (a a' : Act) : Prop := ∃ (d : List Deferred) (u : Value), a' = ({ a with defers := d } : Act).put o.dst u

theorem put_defers_eq (a : Act) (d : List Deferred) (t : Option Tmp) (u : Value) : ({ a with defers := d } : Act).put t u = { a.put t u with defers := d } := by
  cases t <;> rfl

theorem effStep_after {o : Oper} {K : Act → World → Prop} {a : Act} {w : World} (hh : effStep P ops o K a w) : effStep P ops o (fun a' w' => After o a a' ∧ K a' w') a w := by
  unfold effStep at *
  split
  · rename_i hw
    rw [if_pos hw] at hh
    unfold Oper.wp at *
    generalize (execOp a.eval o).run P w = r at *
    cases r with
    | ok n w' =>
      cases n <;> simp only [Oper.upon] at hh ⊢ <;>
        first
          | exact ⟨⟨a.defers, _, rfl⟩, hh⟩
          | exact ⟨⟨_, _, rfl⟩, hh⟩
          | exact Calls.mono hh (fun e w'' he => by
              cases e
              · exact ⟨⟨a.defers, _, rfl⟩, he⟩
              · exact he.elim
              · obtain ⟨_, _, he⟩ := he; exact he.elim)
          | exact Rows.mono hh (fun _ _ he => ⟨⟨a.defers, _, rfl⟩, he⟩)
          | exact hh
    | halt x w' => cases x <;> simp only [Oper.upon] at hh ⊢ <;> exact hh.elim
  · rename_i hw
    rw [if_neg hw] at hh
    exact ⟨⟨a.defers, _, rfl⟩, hh⟩

/-- It comes to something. -/
theorem effStep_some {o : Oper} {K : Act → World → Prop} {a : Act} {w : World} (hh : effStep P ops o K a w) : ∃ a' w', K a' w' := by
  unfold effStep at hh
  split at hh
  · unfold Oper.wp at hh
    generalize (execOp a.eval o).run P w = r at hh
    cases r with
    | ok n w' =>
      cases n <;> simp only [Oper.upon] at hh <;>
        first
          | exact ⟨_, _, hh⟩
          | (obtain ⟨e, w1, fr, hr, _⟩ := hh []
             cases e
             · exact ⟨_, _, hr⟩
             · exact hr.elim
             · obtain ⟨_, _, he⟩ := hr; exact he.elim)
          | (obtain ⟨v, w1, hr, _⟩ := hh default []
             exact ⟨_, _, hr⟩)
          | exact hh.elim
    | halt x w' => cases x <;> simp only [Oper.upon] at hh <;> exact hh.elim
  · exact ⟨_, _, hh⟩

theorem eval_defers (a : Act) (d : List Deferred) : ({ a with defers := d } : Act).eval = a.eval := by
  funext x; cases x <;> rfl

/-- A value laid ahead into a slot that the operation does not look at may as well be laid behind it. -/
theorem effStep_put {oi oj : Oper} {v : Value} (hap : oi.apart ops oj = true) (hsj : ∀ cs b, oj.op ≠ .select cs b)
    {K : Act → World → Prop} {a : Act} {w : World} (h : effStep P ops oj K (a.put oi.dst v) w) : effStep P ops oj (fun a' w' => K (a'.put oi.dst v) w') a w := by
  obtain ⟨h1, h2, h3⟩ := Oper.apart_spec hap
  unfold effStep at *
  rw [wanted_put oj a oi.dst v h1] at h
  split
  · rename_i hw
    rw [if_pos hw] at h
    unfold Oper.wp at *
    rw [execOp_put oj hsj a oi.dst v h1] at h
    generalize (execOp a.eval oj).run P w = r at *
    have hc : ∀ u, ((a.put oi.dst v).put oj.dst u) = (a.put oj.dst u).put oi.dst v := fun u => Act.put_comm a v u h2
    cases r with
    | ok n w' =>
      cases n <;> simp only [Oper.upon] at h ⊢ <;>
        first
          | (rw [← hc]; exact h)
          | (rw [Act.put_defers] at h; rw [← Act.put_comm _ _ _ h2]; exact h)
          | exact Calls.mono h (fun e w'' he => by
              cases e
              · dsimp only at he ⊢; rw [← hc]; exact he
              · exact he.elim
              · obtain ⟨_, _, he⟩ := he; exact he.elim)
          | exact Rows.mono h (fun _ _ he => by rw [← hc]; exact he)
          | exact h
    | halt x w' => cases x <;> simp only [Oper.upon] at h ⊢ <;> exact h.elim
  · rename_i hw
    rw [if_neg hw] at h
    rw [← Act.put_comm a v undef h2]
    exact h

theorem execOp_after {oi oj : Oper} (hap : oi.apart ops oj = true) (hsi : ∀ cs b, oi.op ≠ .select cs b) {a a' : Act} (h : After oj a a') :
    execOp a'.eval oi = execOp a.eval oi ∧ Region.wanted oi (yielded ops a'.tmps) = Region.wanted oi (yielded ops a.tmps) := by
  obtain ⟨_, _, h3⟩ := Oper.apart_spec hap
  obtain ⟨d, u, rfl⟩ := h
  constructor
  · rw [execOp_put oi hsi _ oj.dst u h3, eval_defers]
  · exact wanted_put oi _ oj.dst u h3

end

section
variable {P : Program} {ops : Array Oper}

/-- The same the other way round. -/
theorem effStep_put' {oi oj : Oper} {v : Value} (hap : oi.apart ops oj = true) (hsj : ∀ cs b, oj.op ≠ .select cs b)
    {K : Act → World → Prop} {a : Act} {w : World} (h : effStep P ops oj (fun a' w' => K (a'.put oi.dst v) w') a w) : effStep P ops oj K (a.put oi.dst v) w := by
  obtain ⟨h1, h2, h3⟩ := Oper.apart_spec hap
  unfold effStep at *
  rw [wanted_put oj a oi.dst v h1]
  split
  · rename_i hw
    rw [if_pos hw] at h
    unfold Oper.wp at *
    rw [execOp_put oj hsj a oi.dst v h1]
    generalize (execOp a.eval oj).run P w = r at *
    have hc : ∀ u, ((a.put oi.dst v).put oj.dst u) = (a.put oj.dst u).put oi.dst v := fun u => Act.put_comm a v u h2
    cases r with
    | ok n w' =>
      cases n <;> simp only [Oper.upon] at h ⊢ <;>
        first
          | (rw [hc]; exact h)
          | (rw [Act.put_defers, Act.put_comm _ _ _ h2]; exact h)
          | exact Calls.mono h (fun e w'' he => by
              cases e
              · dsimp only at he ⊢; rw [hc]; exact he
              · exact he.elim
              · obtain ⟨_, _, he⟩ := he; exact he.elim)
          | exact Rows.mono h (fun _ _ he => by rw [hc]; exact he)
          | exact h
    | halt x w' => cases x <;> simp only [Oper.upon] at h ⊢ <;> exact h.elim
  · rename_i hw
    rw [if_neg hw] at h
    rw [Act.put_comm a v undef h2]
    exact h

theorem Flo.eff {o : Oper} {v : Value} {a : Act} {w : World} {K : Act → World → Prop} (h : Flo P ops o v a w) (hk : K (a.put o.dst v) w) : effStep P ops o K a w := by
  unfold effStep
  rcases h with ⟨h1, h2 | ⟨h2, rfl⟩⟩ | ⟨h1, rfl⟩
  · rw [if_pos h1]; unfold Oper.wp; rw [h2]; exact hk
  · rw [if_pos h1]; unfold Oper.wp; rw [h2]; exact hk
  · rw [if_neg (by simp [h1])]; exact hk
end

/-- 0: it computes; 1: it reads; 2: all else. -/
def clsOp : Op → Nat
  | .move _ | .assign _ | .pick .. | .build .. | .nilCheck _ | .fieldAddr .. | .field .. | .indexAddr .. | .index .. | .binOp .. | .unOp .. | .makeInterface .. | .extract .. | .typeAssert .. | .convert .. | .slice .. | .makeFunc .. => 0
  | .load .. | .lookup .. => 1
  | .call { callee := .builtin .len, .. } | .call { callee := .builtin .cap, .. } => 1
  | _ => 2
def clsAt (cl : List Nat) (i : Nat) : Nat := cl.getD i 2

def maskOf (acc : Array Nat) (after : Array Edge) : Nat := after.foldl (fun s e => if Region.binds .any e then s ||| 2 ^ e.on ||| acc.getD e.on 0 else s) 0
def masks (ops : Array Oper) : Array Nat := ops.foldl (init := #[]) fun acc o => acc.push (maskOf acc o.after)
def reach (ms : Array Nat) (j i : Nat) : Bool := (ms.getD j 0).testBit i
def needs (cl : List Nat) (ms : Array Nat) (i : Nat) : Bool := (List.range cl.length).any fun k => clsAt cl k == 1 && k != i && !reach ms i k

theorem mask_bit {acc : Array Nat} {i : Nat} : ∀ (l : List Edge) (s : Nat), (l.foldl (fun s e => if Region.binds .any e then s ||| 2 ^ e.on ||| acc.getD e.on 0 else s) s).testBit i = true →
    s.testBit i = true ∨ ∃ e ∈ l, Region.binds .any e = true ∧ (e.on = i ∨ (acc.getD e.on 0).testBit i = true)
  | [], s, h => .inl h
  | e :: l, s, h => by
    rw [List.foldl_cons] at h
    rcases mask_bit l _ h with h | ⟨e', he', hb, h⟩
    · split at h
      · rename_i hb
        rw [Nat.testBit_or, Nat.testBit_or, Nat.testBit_two_pow] at h
        simp only [Bool.or_eq_true, decide_eq_true_eq] at h
        rcases h with (h | h) | h
        · exact .inl h
        · exact .inr ⟨e, List.mem_cons_self, hb, .inl h⟩
        · exact .inr ⟨e, List.mem_cons_self, hb, .inr h⟩
      · exact .inl h
    · exact .inr ⟨e', List.mem_cons_of_mem _ he', hb, h⟩

theorem masks_list : ∀ (l : List Oper) (acc : Array Nat), let r := l.foldl (fun acc o => acc.push (maskOf acc o.after)) acc
    r.size = acc.size + l.length ∧ (∀ j, j < acc.size → r.getD j 0 = acc.getD j 0) ∧
    ∀ k o, l[k]? = some o → (∀ e ∈ o.after, Region.binds .any e = true → e.on < acc.size + k) → r.getD (acc.size + k) 0 = maskOf r o.after
  | [], acc => ⟨rfl, fun _ _ => rfl, fun k o h => by simp at h⟩
  | o :: l, acc => by
    intro r
    obtain ⟨h1, h2, h3⟩ := masks_list l (acc.push (maskOf acc o.after))
    have hr : r = l.foldl (fun acc o => acc.push (maskOf acc o.after)) (acc.push (maskOf acc o.after)) := rfl
    rw [← hr] at h1 h2 h3
    simp only [Array.size_push] at h1 h2 h3
    have hold : ∀ j, j < acc.size → r.getD j 0 = acc.getD j 0 := fun j hj => by
      rw [h2 j (by omega)]
      simp [Array.getD_eq_getD_getElem?, Array.getElem?_push, Nat.ne_of_lt hj]
    refine ⟨by rw [h1]; simp; omega, hold, fun k o' hk hlow => ?_⟩
    cases k with
    | zero =>
      simp at hk
      subst hk
      rw [Nat.add_zero, h2 acc.size (by omega)]
      have : (acc.push (maskOf acc o.after)).getD acc.size 0 = maskOf acc o.after := by simp [Array.getD_eq_getD_getElem?]
      rw [this]
      unfold maskOf
      rw [← Array.foldl_toList, ← Array.foldl_toList]
      have : ∀ (es : List Edge) (s : Nat), (∀ e ∈ es, Region.binds .any e = true → e.on < acc.size) → es.foldl (fun s e => if Region.binds .any e then s ||| 2 ^ e.on ||| acc.getD e.on 0 else s) s =
          es.foldl (fun s e => if Region.binds .any e then s ||| 2 ^ e.on ||| r.getD e.on 0 else s) s := by
        intro es
        induction es with
        | nil => intro s _; rfl
        | cons e es ih =>
          intro s hh
          simp only [List.foldl_cons]
          by_cases hb : Region.binds .any e = true
          · rw [if_pos hb, if_pos hb, hold e.on (hh e List.mem_cons_self hb)]
            exact ih _ fun e' he' => hh e' (List.mem_cons_of_mem _ he')
          · rw [if_neg hb, if_neg hb]
            exact ih _ fun e' he' => hh e' (List.mem_cons_of_mem _ he')
      exact this _ _ fun e he hb => by simpa using hlow e (by simpa using he) hb
    | succ k =>
      have := h3 k o' (by simpa using hk) (fun e he hb => by have := hlow e he hb; omega)
      rw [show acc.size + (k + 1) = acc.size + 1 + k by omega]
      exact this

/-- What the check says. -/
structure Plan (cl : List Nat) (ops : Array Oper) (ms : Array Nat) : Prop where
  low : ∀ j o, ops[j]? = some o → ∀ e ∈ o.after, Region.binds .any e = true → e.on < j
  sel : ∀ (j : Nat) (o : Oper) cs b, ops[j]? = some o → o.op ≠ .select cs b
  low1 : ∀ (j : Nat) (o : Oper), ops[j]? = some o → clsAt cl j = 2 ∨ clsOp o.op ≤ 1
  le2 : ∀ (j : Nat) (o : Oper), ops[j]? = some o → clsAt cl j ≤ 2
  pair : ∀ i j oi oj, i < j → ops[i]? = some oi → ops[j]? = some oj → reach ms j i = false → oi.apart ops oj = true ∧ oj.apart ops oi = true ∧ (clsAt cl i ≠ 2 ∨ clsAt cl j ≠ 2)
  step : ∀ j o i, ops[j]? = some o → reach ms j i = true → ∃ e ∈ o.after, Region.binds .any e = true ∧ (e.on = i ∨ reach ms e.on i = true)

def noSel : Op → Bool
  | .select .. => false
  | _ => true

def planOk (cl : List Nat) (ops : Array Oper) : Bool :=
  let ms := masks ops
  (List.range ops.size).all fun j =>
    match ops[j]? with
    | some oj =>
      oj.after.all (fun e => !Region.binds .any e || decide (e.on < j)) && noSel oj.op && (clsAt cl j == 2 || decide (clsOp oj.op ≤ 1)) && decide (clsAt cl j ≤ 2) &&
      (List.range j).all fun i => reach ms j i ||
        match ops[i]? with
        | some oi => oi.apart ops oj && oj.apart ops oi && (!(clsAt cl i == 2) || !(clsAt cl j == 2))
        | none => false
    | none => true

theorem planOk_spec {cl : List Nat} {ops : Array Oper} (h : planOk cl ops = true) : Plan cl ops (masks ops) := by
  have hj : ∀ j oj, ops[j]? = some oj → (oj.after.all (fun e => !Region.binds .any e || decide (e.on < j)) && noSel oj.op && (clsAt cl j == 2 || decide (clsOp oj.op ≤ 1)) && decide (clsAt cl j ≤ 2) &&
      (List.range j).all fun i => reach (masks ops) j i ||
        match ops[i]? with
        | some oi => oi.apart ops oj && oj.apart ops oi && (!(clsAt cl i == 2) || !(clsAt cl j == 2))
        | none => false) = true := fun j oj ho => by
    have hlt : j < ops.size := (Array.getElem?_eq_some_iff.1 ho).1
    have := List.all_eq_true.1 h j (List.mem_range.2 hlt)
    simpa only [ho] using this
  have low : ∀ j o, ops[j]? = some o → ∀ e ∈ o.after, Region.binds .any e = true → e.on < j := fun j o ho e he hb => by
    have := hj j o ho
    simp only [Bool.and_eq_true] at this
    have h1 := Array.all_eq_true_iff_forall_mem.1 this.1.1.1.1 e he
    simpa [hb] using h1
  refine ⟨low, fun j o cs b ho e => ?_, fun j o ho => ?_, fun j o ho => ?_, fun i j oi oj hij hi hj' hr => ?_, fun j o i ho hr => ?_⟩
  · have := hj j o ho
    simp [e, noSel] at this
  · have := hj j o ho
    simp only [Bool.and_eq_true, Bool.or_eq_true, beq_iff_eq, decide_eq_true_eq] at this
    exact this.1.1.2
  · have := hj j o ho
    simp only [Bool.and_eq_true, Bool.or_eq_true, beq_iff_eq, decide_eq_true_eq] at this
    exact this.1.2
  · have := hj j oj hj'
    simp only [Bool.and_eq_true] at this
    have h1 := List.all_eq_true.1 this.2 i (List.mem_range.2 hij)
    simp [hr, hi] at h1
    refine ⟨h1.1.1, h1.1.2, ?_⟩
    rcases h1.2 with h2 | h2
    · exact .inl h2
    · exact .inr h2
  · have hm := masks_list ops.toList #[]
    simp only [List.size_toArray, List.length_nil, Nat.zero_add, Array.getElem?_toList] at hm
    have h3 := hm.2.2 j o ho (fun e he hb => low j o ho e he hb)
    unfold reach at hr
    have he : masks ops = ops.toList.foldl (fun acc o => acc.push (maskOf acc o.after)) #[] := by unfold masks; rw [Array.foldl_toList]
    rw [he] at hr
    rw [h3] at hr
    unfold maskOf at hr
    rw [← Array.foldl_toList] at hr
    rcases mask_bit _ _ hr with h4 | ⟨e, hem, hb, h4⟩
    · simp at h4
    · refine ⟨e, by simpa using hem, hb, ?_⟩
      unfold reach
      rw [he]
      exact h4

section
variable {P : Program} {cl : List Nat} {ops : Array Oper} {ms : Array Nat}

theorem Plan.reach_some (h : Plan cl ops ms) {j i : Nat} {o : Oper} (ho : ops[j]? = some o) (hr : reach ms j i = true) : i < j := by
  induction j using Nat.strongRecOn generalizing i o with
  | _ j ih =>
    obtain ⟨e, he, hb, h1⟩ := h.step j o i ho hr
    have hlt := h.low j o ho e he hb
    rcases h1 with h1 | h1
    · omega
    · have hj : j < ops.size := (Array.getElem?_eq_some_iff.1 ho).1
      have := ih e.on hlt (Array.getElem?_eq_getElem (show e.on < ops.size by omega)) h1
      omega

def Closed (ops : Array Oper) (L : Array Bool) : Prop :=
  ∀ j oj, ops[j]? = some oj → L.getD j false = true → ∀ e ∈ oj.after, Region.binds .any e = true → L.getD e.on false = true

theorem Plan.closed_reach (h : Plan cl ops ms) {L : Array Bool} (hL : Closed ops L) {j i : Nat} {o : Oper} (ho : ops[j]? = some o) (hl : L.getD j false = true) (hr : reach ms j i = true) : L.getD i false = true := by
  induction j using Nat.strongRecOn generalizing i o with
  | _ j ih =>
    obtain ⟨e, he, hb, h1⟩ := h.step j o i ho hr
    have hlt := h.low j o ho e he hb
    have h2 := hL j o ho hl e he hb
    rcases h1 with h1 | h1
    · subst h1; exact h2
    · have hj : j < ops.size := (Array.getElem?_eq_some_iff.1 ho).1
      exact ih e.on hlt (Array.getElem?_eq_getElem (show e.on < ops.size by omega)) h2 h1

theorem Plan.ready_reach (h : Plan cl ops ms) {L : Array Bool} (hL : Closed ops L) {j i : Nat} (hj : j ∈ Region.ready .any ops L) (hr : reach ms j i = true) : L.getD i false = true := by
  obtain ⟨_, o, ho, hall⟩ := mem_ready.1 hj
  obtain ⟨e, he, hb, h1⟩ := h.step j o i ho hr
  have h2 := hall e he hb
  rcases h1 with h1 | h1
  · subst h1; exact h2
  · have hlt := h.low j o ho e he hb
    have hj : j < ops.size := (Array.getElem?_eq_some_iff.1 ho).1
    exact h.closed_reach hL (Array.getElem?_eq_getElem (show e.on < ops.size by omega)) h2 h1

/-- The walk in the order of the text: what computes does so in whatever world, what reads does so in whatever world that meets I, all else is one step of the walk, and keeps I where something may still be read. -/
def txt (P : Program) (cl : List Nat) (ops : Array Oper) (ms : Array Nat) (I : World → Prop) (K : Act → World → Prop) : List Nat → Act → World → Prop
  | [], a, w => K a w
  | i :: l, a, w => ∃ o, ops[i]? = some o ∧
    ((clsAt cl i = 0 ∧ ∃ v, (∀ u, Flo P ops o v a u) ∧ txt P cl ops ms I K l (a.put o.dst v) w) ∨
     (clsAt cl i = 1 ∧ ∃ v, (∀ u, I u → Flo P ops o v a u) ∧ txt P cl ops ms I K l (a.put o.dst v) w) ∨
     (clsAt cl i = 2 ∧ effStep P ops o (fun a' w' => (needs cl ms i = true → I w') ∧ txt P cl ops ms I K l a' w') a w))


theorem needs_of {i k : Nat} (hk : clsAt cl k = 1) (hne : k ≠ i) (hr : reach ms i k = false) : needs cl ms i = true := by
  unfold needs
  refine List.any_eq_true.2 ⟨k, List.mem_range.2 ?_, by simp [hk, hne, hr]⟩
  unfold clsAt at hk
  rcases Nat.lt_or_ge k cl.length with h | h
  · exact h
  · rw [List.getD_eq_getElem?_getD, List.getElem?_eq_none h] at hk; cases hk

theorem not_reach (h : Plan cl ops ms) {i k : Nat} {o : Oper} (ho : ops[i]? = some o) (hlt : i < k) : reach ms i k = false := by
  cases hr : reach ms i k with
  | false => rfl
  | true => have := h.reach_some ho hr; omega

theorem txt_float (hp : Plan cl ops ms) {I : World → Prop} {K : Act → World → Prop} {i : Nat} {l2 : List Nat} (hc : clsAt cl i ≠ 2) : ∀ (l1 : List Nat) (a : Act) (w : World),
    (l1 ++ i :: l2).Pairwise (· < ·) → (∀ k ∈ l1, reach ms i k = false) → ((∃ k ∈ l1 ++ i :: l2, clsAt cl k = 1) → I w) → txt P cl ops ms I K (l1 ++ i :: l2) a w →
    ∃ oi v, ops[i]? = some oi ∧ (∀ u, (clsAt cl i = 1 → I u) → Flo P ops oi v a u) ∧ txt P cl ops ms I K (l1 ++ l2) (a.put oi.dst v) w := by
  intro l1
  induction l1 with
  | nil =>
    intro a w _ _ _ ht
    obtain ⟨o, ho, ⟨h0, v, hv, ht⟩ | ⟨h0, v, hv, ht⟩ | ⟨h0, _⟩⟩ := ht
    · exact ⟨o, v, ho, fun u _ => hv u, ht⟩
    · exact ⟨o, v, ho, fun u hu => hv u (hu h0), ht⟩
    · exact absurd h0 hc
  | cons k l1 ih =>
    intro a w hs hr hJ ht
    have hs' : (l1 ++ i :: l2).Pairwise (· < ·) := (List.pairwise_cons.1 hs).2
    have hgt : ∀ r ∈ l1 ++ i :: l2, k < r := (List.pairwise_cons.1 hs).1
    have hki : k < i := hgt i (by simp)
    have hJ' : (∃ r ∈ l1 ++ i :: l2, clsAt cl r = 1) → I w := fun ⟨r, h1, h2⟩ => hJ ⟨r, List.mem_cons_of_mem _ h1, h2⟩
    obtain ⟨ok, hok, hk⟩ := ht
    have flo : ∀ v, (∀ u, (clsAt cl k = 1 → I u) → Flo P ops ok v a u) → txt P cl ops ms I K (l1 ++ i :: l2) (a.put ok.dst v) w →
        (∀ oi vi, ops[i]? = some oi → (∀ u, (clsAt cl i = 1 → I u) → Flo P ops oi vi a u) →
          (∀ u, (clsAt cl k = 1 → I u) → Flo P ops ok v (a.put oi.dst vi) u) → txt P cl ops ms I K (l1 ++ l2) ((a.put oi.dst vi).put ok.dst v) w → txt P cl ops ms I K (k :: (l1 ++ l2)) (a.put oi.dst vi) w) →
        ∃ oi v, ops[i]? = some oi ∧ (∀ u, (clsAt cl i = 1 → I u) → Flo P ops oi v a u) ∧ txt P cl ops ms I K (k :: (l1 ++ l2)) (a.put oi.dst v) w := by
      intro v hv htl hcl
      obtain ⟨oi, vi, hoi, hvi, htt⟩ := ih _ w hs' (fun r hr' => hr r (List.mem_cons_of_mem _ hr')) hJ' htl
      obtain ⟨hap, hap', _⟩ := hp.pair k i ok oi hki hok hoi (hr k List.mem_cons_self)
      obtain ⟨p1, p2, p3⟩ := Oper.apart_spec hap
      obtain ⟨q1, q2, q3⟩ := Oper.apart_spec hap'
      have hvi' : ∀ u, (clsAt cl i = 1 → I u) → Flo P ops oi vi a u := fun u hu =>
        (hvi u hu).of_same (execOp_put oi (hp.sel i oi · · hoi) a ok.dst v p1).symm (wanted_put oi a ok.dst v p1).symm
      refine ⟨oi, vi, hoi, hvi', hcl oi vi hoi hvi' (fun u hu => ?_) ?_⟩
      · exact (hv u hu).of_same (execOp_put ok (hp.sel k ok · · hok) a oi.dst vi q1) (wanted_put ok a oi.dst vi q1)
      · rw [Act.put_comm a vi v q2]
        exact htt
    rcases hk with ⟨h0, v, hv, htl⟩ | ⟨h0, v, hv, htl⟩ | ⟨h0, he⟩
    · exact flo v (fun u _ => hv u) htl fun oi vi _ _ h1 h2 => ⟨ok, hok, .inl ⟨h0, v, fun u => h1 u (fun e => by rw [h0] at e; cases e), h2⟩⟩
    · exact flo v (fun u hu => hv u (hu h0)) htl fun oi vi _ _ h1 h2 => ⟨ok, hok, .inr (.inl ⟨h0, v, fun u hu => h1 u (fun _ => hu), h2⟩)⟩
    · have hneed : ∀ r ∈ l1 ++ i :: l2, clsAt cl r = 1 → needs cl ms k = true := fun r hr1 hr2 =>
        needs_of hr2 (by have := hgt r hr1; omega) (not_reach hp hok (hgt r hr1))
      have key : ∀ a1 w1, (After ok a a1 ∧ (needs cl ms k = true → I w1) ∧ txt P cl ops ms I K (l1 ++ i :: l2) a1 w1) →
          ∃ oi v, ops[i]? = some oi ∧ (∀ u, (clsAt cl i = 1 → I u) → Flo P ops oi v a u) ∧ txt P cl ops ms I K (l1 ++ l2) (a1.put oi.dst v) w1 := by
        rintro a1 w1 ⟨haf, hn, htl⟩
        obtain ⟨oi, v, hoi, hv, htt⟩ := ih a1 w1 hs' (fun r hr' => hr r (List.mem_cons_of_mem _ hr')) (fun ⟨r, h1, h2⟩ => hn (hneed r h1 h2)) htl
        obtain ⟨hap, hap', _⟩ := hp.pair k i ok oi hki hok hoi (hr k List.mem_cons_self)
        obtain ⟨e1, e2⟩ := execOp_after hap' (hp.sel i oi · · hoi) haf
        exact ⟨oi, v, hoi, fun u hu => (hv u hu).of_same e1.symm e2.symm, htt⟩
      obtain ⟨a1, w1, h1⟩ := effStep_some (effStep_after he)
      obtain ⟨oi, v, hoi, hv, _⟩ := key a1 w1 h1
      obtain ⟨hap, hap', _⟩ := hp.pair k i ok oi hki hok hoi (hr k List.mem_cons_self)
      refine ⟨oi, v, hoi, hv, ok, hok, .inr (.inr ⟨h0, effStep_put' hap' (hp.sel k ok · · hok) ?_⟩)⟩
      refine effStep_mono (fun a2 w2 h2 => ?_) (effStep_after he)
      obtain ⟨oi', v', hoi', hv', htt⟩ := key a2 w2 h2
      have : oi' = oi := Option.some.inj (hoi'.symm.trans hoi)
      subst this
      have hIw : clsAt cl i = 1 → I w := fun e => hJ ⟨i, by simp, e⟩
      have : v' = v := (hv' w hIw).unique (hv w hIw)
      subst this
      exact ⟨h2.2.1, htt⟩

theorem txt_eff (hp : Plan cl ops ms) {I : World → Prop} {K : Act → World → Prop} {i : Nat} {l2 : List Nat} (hc : clsAt cl i = 2) : ∀ (l1 : List Nat) (a : Act) (w : World),
    (l1 ++ i :: l2).Pairwise (· < ·) → (∀ k ∈ l1, reach ms i k = false) → txt P cl ops ms I K (l1 ++ i :: l2) a w →
    ∃ oi, ops[i]? = some oi ∧ effStep P ops oi (fun a' w' => (needs cl ms i = true → I w') ∧ txt P cl ops ms I K (l1 ++ l2) a' w') a w := by
  intro l1
  induction l1 with
  | nil =>
    intro a w _ _ ht
    obtain ⟨o, ho, ⟨h0, _⟩ | ⟨h0, _⟩ | ⟨_, h1⟩⟩ := ht
    · rw [h0] at hc; cases hc
    · rw [h0] at hc; cases hc
    · exact ⟨o, ho, h1⟩
  | cons k l1 ih =>
    intro a w hs hr ht
    have hs' : (l1 ++ i :: l2).Pairwise (· < ·) := (List.pairwise_cons.1 hs).2
    have hki : k < i := (List.pairwise_cons.1 hs).1 i (by simp)
    obtain ⟨ok, hok, hk⟩ := ht
    have flo : ∀ v, (∀ u, (clsAt cl k = 1 → I u) → Flo P ops ok v a u) → txt P cl ops ms I K (l1 ++ i :: l2) (a.put ok.dst v) w →
        (∀ a' w', (∀ u, (clsAt cl k = 1 → I u) → Flo P ops ok v a' u) → txt P cl ops ms I K (l1 ++ l2) (a'.put ok.dst v) w' → txt P cl ops ms I K (k :: (l1 ++ l2)) a' w') →
        ∃ oi, ops[i]? = some oi ∧ effStep P ops oi (fun a' w' => (needs cl ms i = true → I w') ∧ txt P cl ops ms I K (k :: (l1 ++ l2)) a' w') a w := by
      intro v hv htl hcl
      obtain ⟨oi, hoi, he⟩ := ih _ w hs' (fun r hr' => hr r (List.mem_cons_of_mem _ hr')) htl
      obtain ⟨hap, hap', _⟩ := hp.pair k i ok oi hki hok hoi (hr k List.mem_cons_self)
      refine ⟨oi, hoi, effStep_mono (fun a' w' h => ?_) (effStep_after (effStep_put hap (hp.sel i oi · · hoi) he))⟩
      obtain ⟨haf, h1, h2⟩ := h
      obtain ⟨e1, e2⟩ := execOp_after hap (hp.sel k ok · · hok) haf
      exact ⟨h1, hcl a' w' (fun u hu => (hv u hu).of_same e1 e2) h2⟩
    rcases hk with ⟨h0, v, hv, htl⟩ | ⟨h0, v, hv, htl⟩ | ⟨h0, he⟩
    · exact flo v (fun u _ => hv u) htl fun a' w' h1 h2 => ⟨ok, hok, .inl ⟨h0, v, fun u => h1 u (fun e => by rw [h0] at e; cases e), h2⟩⟩
    · exact flo v (fun u hu => hv u (hu h0)) htl fun a' w' h1 h2 => ⟨ok, hok, .inr (.inl ⟨h0, v, fun u hu => h1 u (fun _ => hu), h2⟩)⟩
    · exfalso
      cases hoi : ops[i]? with
      | some oi =>
        obtain ⟨_, _, h2 | h2⟩ := hp.pair k i ok oi hki hok hoi (hr k List.mem_cons_self)
        · exact h2 h0
        · exact h2 hc
      | none =>
        obtain ⟨a1, w1, _, h2⟩ := effStep_some he
        -- i stands in the list, so it is an operation
        have : ∀ (l : List Nat) a w, i ∈ l → txt P cl ops ms I K l a w → ∃ o, ops[i]? = some o := by
          intro l
          induction l with
          | nil => intro _ _ h; cases h
          | cons r l ihl =>
            intro a w hm ht
            obtain ⟨o, ho, h⟩ := ht
            rcases List.mem_cons.1 hm with rfl | hm
            · exact ⟨o, ho⟩
            · rcases h with ⟨_, v, _, h⟩ | ⟨_, v, _, h⟩ | ⟨_, h⟩
              · exact ihl _ _ hm h
              · exact ihl _ _ hm h
              · obtain ⟨a', w', _, h⟩ := effStep_some h
                exact ihl _ _ hm h
        obtain ⟨o, ho⟩ := this _ a1 w1 (by simp) h2
        rw [ho] at hoi; cases hoi

def unl (ops : Array Oper) (L : Array Bool) : List Nat := (List.range ops.size).filter fun i => !L.getD i true

theorem any_of_txt (hp : Plan cl ops ms) {I : World → Prop} {K : Act → World → Prop} {Q : Exit → Act → World → Prop} (hQ : ∀ a w, K a w → Q .normal a w) :
    ∀ (fuel : Nat) (L : Array Bool) (a : Act) (w : World), L.size = ops.size → Closed ops L → (unl ops L).length = fuel → ((∃ k ∈ unl ops L, clsAt cl k = 1) → I w) →
      txt P cl ops ms I K (unl ops L) a w → wpAny P .any ops Q fuel L a w := by
  intro fuel
  induction fuel with
  | zero =>
    intro L a w hsz hcl hlen _ ht
    have h0 : unl ops L = [] := List.eq_nil_of_length_eq_zero hlen
    rw [h0] at ht
    refine ⟨List.eq_nil_iff_forall_not_mem.2 fun j hj => ?_, hQ _ _ ht⟩
    obtain ⟨h1, o, ho, _⟩ := mem_ready.1 hj
    have : j ∈ unl ops L := List.mem_filter.2 ⟨List.mem_range.2 (Array.getElem?_eq_some_iff.1 ho).1, by simp [h1]⟩
    rw [h0] at this
    cases this
  | succ fuel ih =>
    intro L a w hsz hcl hlen hJ ht
    have hsorted : (unl ops L).Pairwise (· < ·) := List.Pairwise.filter _ List.pairwise_lt_range
    refine ⟨fun h0 => ?_, fun i hi => ?_⟩
    · -- the first that is left is ready
      exfalso
      cases hu : unl ops L with
      | nil => rw [hu] at hlen; cases hlen
      | cons i l =>
        have him : i ∈ unl ops L := by rw [hu]; exact List.mem_cons_self
        obtain ⟨h1, h2⟩ := List.mem_filter.1 him
        have hlt := List.mem_range.1 h1
        have ho := Array.getElem?_eq_getElem hlt
        have : i ∈ Region.ready .any ops L := mem_ready.2 ⟨by simpa using h2, _, ho, fun e he hb => by
          have hel := hp.low i _ ho e he hb
          cases hle : L.getD e.on false with
          | true => rfl
          | false =>
            have hem : e.on ∈ unl ops L := List.mem_filter.2 ⟨List.mem_range.2 (by omega), by
              have : e.on < L.size := by omega
              simp [Array.getD_eq_getD_getElem?, this] at hle ⊢
              exact hle⟩
            rw [hu] at hem hsorted
            rcases List.mem_cons.1 hem with h | h
            · omega
            · have := (List.pairwise_cons.1 hsorted).1 _ h
              omega⟩
        rw [h0] at this
        cases this
    · obtain ⟨h1, o, ho, hall⟩ := mem_ready.1 hi
      have hlt : i < ops.size := (Array.getElem?_eq_some_iff.1 ho).1
      have him : i ∈ unl ops L := List.mem_filter.2 ⟨List.mem_range.2 hlt, by simp [h1]⟩
      obtain ⟨l1, l2, hl⟩ := List.append_of_mem him
      have hnr : ∀ k ∈ l1, reach ms i k = false := fun k hk => by
        cases hr : reach ms i k with
        | false => rfl
        | true =>
          have h2 := hp.ready_reach hcl hi hr
          have hk' : k ∈ unl ops L := by rw [hl]; exact List.mem_append_left _ hk
          have h3 := (List.mem_filter.1 hk').2
          have : k < L.size := by rw [hsz]; exact List.mem_range.1 (List.mem_filter.1 hk').1
          simp [Array.getD_eq_getD_getElem?, this] at h2 h3
          rw [h2] at h3; cases h3
      have hgt2 : ∀ k ∈ l2, i < k := fun k hk => by
        rw [hl] at hsorted
        exact (List.pairwise_cons.1 (List.pairwise_append.1 hsorted).2.1).1 k hk
      have hgt1 : ∀ k ∈ l1, k < i := fun k hk => by
        rw [hl] at hsorted
        exact (List.pairwise_append.1 hsorted).2.2 k hk i List.mem_cons_self
      have hL' : unl ops (L.setIfInBounds i true) = l1 ++ l2 := by
        have : unl ops (L.setIfInBounds i true) = (unl ops L).filter (fun k => k != i) := by
          unfold unl
          rw [List.filter_filter]
          refine List.filter_congr fun k hk => ?_
          by_cases hki : i = k
          · subst hki
            have : i < L.size := by omega
            simp [Array.getD_eq_getD_getElem?, this]
          · rw [getD_set_ne true hki]
            simp [Ne.symm hki]
        rw [this, hl, List.filter_append, List.filter_cons]
        simp only [bne_self_eq_false, Bool.false_eq_true, if_false]
        rw [List.filter_eq_self.2 fun k hk => by have := hgt1 k hk; simp; omega, List.filter_eq_self.2 fun k hk => by have := hgt2 k hk; simp; omega]
      have hcl' : Closed ops (L.setIfInBounds i true) := fun j oj hj hlj e he hb => by
        by_cases hij : i = j
        · subst hij
          have : oj = o := Option.some.inj (hj.symm.trans ho)
          subst this
          exact getD_set_true (hall e he hb)
        · rw [getD_set_ne false hij] at hlj
          exact getD_set_true (hcl j oj hj hlj e he hb)
      have hlen' : (unl ops (L.setIfInBounds i true)).length = fuel := by rw [hL']; rw [hl] at hlen; simp at hlen ⊢; omega
      rw [hl] at ht hJ hsorted
      by_cases hc : clsAt cl i = 2
      · obtain ⟨oi, hoi, he⟩ := txt_eff hp hc l1 a w hsorted hnr ht
        refine effStep_wpOp hoi (fun a' w' h => ih _ a' w' (by simpa using hsz) hcl' hlen' ?_ (by rw [hL']; exact h.2)) he
        rw [hL']
        rintro ⟨k, hk, hk1⟩
        refine h.1 (needs_of hk1 ?_ ?_)
        · rcases List.mem_append.1 hk with hk | hk
          · have := hgt1 k hk; omega
          · have := hgt2 k hk; omega
        · rcases List.mem_append.1 hk with hk | hk
          · exact hnr k hk
          · exact not_reach hp hoi (hgt2 k hk)
      · obtain ⟨oi, v, hoi, hv, htt⟩ := txt_float hp hc l1 a w hsorted hnr hJ ht
        have hf := hv w (fun e => hJ ⟨i, by simp, e⟩)
        refine effStep_wpOp hoi (K := fun a' w' => a' = a.put oi.dst v ∧ w' = w) (fun a' w' h => ?_) (hf.eff ⟨rfl, rfl⟩)
        obtain ⟨rfl, rfl⟩ := h
        refine ih _ _ _ (by simpa using hsz) hcl' hlen' ?_ (by rw [hL']; exact htt)
        rw [hL']
        rintro ⟨k, hk, hk1⟩
        refine hJ ⟨k, ?_, hk1⟩
        rcases List.mem_append.1 hk with hk | hk
        · exact List.mem_append_left _ hk
        · exact List.mem_append_right _ (List.mem_cons_of_mem _ hk)

theorem unl_all : unl ops (Array.replicate ops.size false) = List.range ops.size := by
  unfold unl
  refine List.filter_eq_self.2 fun i hi => ?_
  have := List.mem_range.1 hi
  simp [Array.getD_eq_getD_getElem?, this]

/-- A region that draws its order, by the order of its text. -/
theorem wp_region_txt {id : Nat} {Q : Exit → Act → World → Prop} {a : Act} {w : World} (hm : P.follows .mixedOrders = true) (hp : planOk cl ops = true) (I : World → Prop) (hI : I w.drew)
    (h : txt P cl ops (masks ops) I (Q .normal) (List.range ops.size) a w.drew) : (Code.region id ops true).wp P Q a w :=
  wp_region_any hm (any_of_txt (planOk_spec hp) (fun _ _ h => h) ops.size _ a _ (by simp) (fun j oj hj hl => by
    rw [getD_replicate_false] at hl; cases hl) (by rw [unl_all]; simp) (fun _ => hI) (by rw [unl_all]; exact h))
  where getD_replicate_false {m j : Nat} : (Array.replicate m false).getD j false = false := by
          rcases Nat.lt_or_ge j m with h | h <;> simp [Array.getD_eq_getD_getElem?, h]
end
end Go.Dm
