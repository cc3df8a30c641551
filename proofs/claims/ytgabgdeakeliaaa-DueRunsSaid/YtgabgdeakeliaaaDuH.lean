/- A heap in a list: what container/heap does to it, without a program. -/
namespace Go.Proofs.Ytgabgdeakeliaaa

structure Ent where
  at_ : Int
  kind : Int
  num : Int
  node : Int
deriving DecidableEq

structure Nm where
  kind : Int
  num : Int
  node : Int
deriving DecidableEq

def Ent.nm (e : Ent) : Nm := ⟨e.kind, e.num, e.node⟩
/-- ahead of another one -/
def Ent.bef (a b : Ent) : Bool :=
  if a.at_ ≠ b.at_ then decide (a.at_ < b.at_) else if a.kind ≠ b.kind then decide (a.kind < b.kind) else decide (a.num < b.num) || (decide (a.num = b.num) && decide (a.node < b.node))

theorem bef_irrefl (a : Ent) : a.bef a = false := by simp [Ent.bef]
theorem bef_asymm {a b : Ent} (h : a.bef b = true) : b.bef a = false := by
  unfold Ent.bef at *
  by_cases h1 : a.at_ = b.at_
  · by_cases h2 : a.kind = b.kind
    · simp only [h1, h2, ne_eq, not_true_eq_false, if_false, Bool.or_eq_true, Bool.and_eq_true, decide_eq_true_eq, Bool.or_eq_false_iff, Bool.and_eq_false_iff, decide_eq_false_iff_not] at *
      omega
    · have h2' : ¬ b.kind = a.kind := fun e => h2 e.symm
      simp only [h1, h2, h2', ne_eq, not_true_eq_false, not_false_eq_true, if_false, if_true, decide_eq_true_eq, decide_eq_false_iff_not] at *
      omega
  · have h1' : ¬ b.at_ = a.at_ := fun e => h1 e.symm
    simp only [h1, h1', ne_eq, not_false_eq_true, if_true, decide_eq_true_eq, decide_eq_false_iff_not] at *
    omega
/-- not behind: a total order -/
theorem bef_total {a b : Ent} (h1 : a.bef b = false) (h2 : b.bef a = false) : a = b := by
  unfold Ent.bef at *
  obtain ⟨a1, a2, a3, a4⟩ := a
  obtain ⟨b1, b2, b3, b4⟩ := b
  dsimp only at *
  by_cases e1 : a1 = b1
  · subst e1
    by_cases e2 : a2 = b2
    · subst e2
      simp only [ne_eq, not_true_eq_false, if_false, Bool.or_eq_false_iff, Bool.and_eq_false_iff, decide_eq_false_iff_not] at h1 h2
      have : a3 = b3 := by omega
      subst this
      have : a4 = b4 := by omega
      subst this
      rfl
    · have e2' : ¬ b2 = a2 := fun e => e2 e.symm
      simp only [ne_eq, not_true_eq_false, if_false, e2, e2', not_false_eq_true, if_true, decide_eq_false_iff_not] at h1 h2
      omega
  · have e1' : ¬ b1 = a1 := fun e => e1 e.symm
    simp only [ne_eq, e1, e1', not_false_eq_true, if_true, decide_eq_false_iff_not] at h1 h2
    omega
theorem bef_trans {a b c : Ent} (h1 : a.bef b = false) (h2 : b.bef c = false) : a.bef c = false := by
  unfold Ent.bef at *
  obtain ⟨a1, a2, a3, a4⟩ := a
  obtain ⟨b1, b2, b3, b4⟩ := b
  obtain ⟨c1, c2, c3, c4⟩ := c
  dsimp only at *
  split at h1 <;> split at h2 <;> (try split at h1) <;> (try split at h2) <;> split <;> (try split) <;>
    simp only [ne_eq, Decidable.not_not, decide_eq_false_iff_not, Bool.or_eq_false_iff, Bool.and_eq_false_iff, decide_eq_false_iff_not] at * <;> omega

/-! A heap, as a function from places. -/
def okp (f : Nat → Ent) (c p : Nat) : Prop := (f c).bef (f p) = false
def par (i : Nat) : Nat := (i - 1) / 2
def sw (f : Nat → Ent) (i k : Nat) : Nat → Ent := fun t => if t = k then f i else if t = i then f k else f t
def HeapTo (f : Nat → Ent) (n : Nat) : Prop := ∀ i, 0 < i → i < n → okp f i (par i)
/-- all but j against its parent -/
def UpI (f : Nat → Ent) (n j : Nat) : Prop := (∀ i, 0 < i → i < n → i ≠ j → okp f i (par i)) ∧ (∀ i, 0 < i → i < n → par i = j → 0 < j → okp f i (par j))
/-- all but j's kids against j -/
def DnI (f : Nat → Ent) (n j : Nat) : Prop := (∀ i, 0 < i → i < n → par i ≠ j → okp f i (par i)) ∧ (∀ i, 0 < i → i < n → par i = j → 0 < j → okp f i (par j))
/-- all but j, above and beneath -/
def AtI (f : Nat → Ent) (n j : Nat) : Prop := (∀ i, 0 < i → i < n → i ≠ j → par i ≠ j → okp f i (par i)) ∧ (∀ i, 0 < i → i < n → par i = j → 0 < j → okp f i (par j))

theorem okp_refl (f : Nat → Ent) (i : Nat) : okp f i i := bef_irrefl _
theorem okp_trans {f : Nat → Ent} {a b c : Nat} (h1 : okp f a b) (h2 : okp f b c) : okp f a c := bef_trans h1 h2

theorem heap_up_done {f : Nat → Ent} {n j : Nat} (h : UpI f n j) (hj : j = 0 ∨ okp f j (par j)) : HeapTo f n := by
  intro i h0 hn
  by_cases e : i = j
  · subst e
    rcases hj with hj | hj
    · omega
    · exact hj
  · exact h.1 i h0 hn e

theorem sw_same (f : Nat → Ent) (i k t : Nat) (h1 : t ≠ i) (h2 : t ≠ k) : sw f i k t = f t := by simp [sw, h1, h2]
theorem sw_left (f : Nat → Ent) (i k : Nat) : sw f i k i = f k := by unfold sw; split <;> simp_all
theorem sw_right (f : Nat → Ent) (i k : Nat) : sw f i k k = f i := by simp [sw]

theorem heap_up_step {f : Nat → Ent} {n j : Nat} (h : UpI f n j) (hj : 0 < j) (hn : j < n) (hb : (f j).bef (f (par j)) = true) : UpI (sw f (par j) j) n (par j) := by
  have hpj : par j < j := by unfold par; omega
  have hba := bef_asymm hb
  constructor
  · intro i h0 hi hne
    unfold okp
    by_cases e : i = j
    · subst e
      rw [sw_right, sw_left]; exact hba
    · rw [sw_same f (par j) j i hne e]
      by_cases e2 : par i = par j
      · rw [e2, sw_left]
        have := h.1 i h0 hi e
        unfold okp at this
        rw [e2] at this
        exact bef_trans this hba
      · by_cases e3 : par i = j
        · rw [e3, sw_right]
          exact h.2 i h0 hi e3 hj
        · rw [sw_same f (par j) j (par i) e2 e3]
          exact h.1 i h0 hi e
  · intro i h0 hi hpi hp0
    unfold okp
    have hpp : par (par j) < par j := by unfold par at *; omega
    rw [sw_same f (par j) j (par (par j)) (by omega) (by omega)]
    have hup : okp f (par j) (par (par j)) := h.1 (par j) hp0 (by omega) (by omega)
    by_cases e : i = j
    · subst e
      rw [sw_right]; exact hup
    · rw [sw_same f (par j) j i (by intro e; subst e; unfold par at *; omega) e]
      have := h.1 i h0 hi e
      unfold okp at this
      rw [hpi] at this
      exact bef_trans this hup

/-- what a step down leaves -/
theorem heap_down_step {f : Nat → Ent} {n i j : Nat} (h1 : ∀ k, 0 < k → k < n → k ≠ i → par k ≠ i → okp f k (par k)) (h2 : ∀ k, 0 < k → k < n → par k = i → 0 < i → okp f k (par i))
    (hpj : par j = i) (hj0 : 0 < j) (hn : j < n) (hall : ∀ k, 0 < k → k < n → par k = i → (f k).bef (f j) = false) (hb : (f j).bef (f i) = true) :
    DnI (sw f i j) n j := by
  have hij : i < j := by unfold par at hpj; omega
  have hba := bef_asymm hb
  constructor
  · intro k h0 hk hne
    unfold okp
    by_cases e : k = j
    · subst e
      rw [sw_right, hpj, sw_left]; exact hba
    · by_cases e2 : k = i
      · subst e2
        have hpk : par k < k := by unfold par; omega
        rw [sw_left, sw_same f k j (par k) (by omega) (by omega)]
        exact h2 j hj0 hn hpj h0
      · rw [sw_same f i j k e2 e]
        by_cases e3 : par k = i
        · rw [e3, sw_left]; exact hall k h0 hk e3
        · rw [sw_same f i j (par k) e3 hne]
          exact h1 k h0 hk e2 e3
  · intro k h0 hk hpk _
    have hjk : j < k := by unfold par at hpk; omega
    unfold okp
    rw [sw_same f i j k (by omega) (by omega), hpj, sw_left]
    have := h1 k h0 hk (by omega) (by rw [hpk]; omega)
    unfold okp at this
    rw [hpk] at this
    exact this

theorem DnI.heap {f : Nat → Ent} {n i : Nat} (h : DnI f n i) (hk : ∀ k, 0 < k → k < n → par k = i → okp f k i) : HeapTo f n := by
  intro k h0 hn
  by_cases e : par k = i
  · rw [e]; exact hk k h0 hn e
  · exact h.1 k h0 hn e
theorem AtI.up {f : Nat → Ent} {n i : Nat} (h : AtI f n i) (hk : ∀ k, 0 < k → k < n → par k = i → okp f k i) : UpI f n i := by
  refine ⟨fun k h0 hn hne => ?_, h.2⟩
  by_cases e : par k = i
  · rw [e]; exact hk k h0 hn e
  · exact h.1 k h0 hn hne e
theorem par_kids {i k : Nat} (h0 : 0 < k) (h : par k = i) : k = 2 * i + 1 ∨ k = 2 * i + 2 := by unfold par at h; omega
theorem par_left (i : Nat) : par (2 * i + 1) = i := by unfold par; omega
theorem par_right (i : Nat) : par (2 * i + 2) = i := by unfold par; omega

/-- the root is the least -/
theorem HeapTo.least {f : Nat → Ent} {n : Nat} (h : HeapTo f n) : ∀ i, i < n → (f i).bef (f 0) = false := by
  intro i
  induction i using Nat.strongRecOn with
  | _ i ih =>
    intro hn
    by_cases h0 : i = 0
    · subst h0; exact bef_irrefl _
    · have hp : par i < i := by unfold par; omega
      exact bef_trans (h i (by omega) hn) (ih (par i) hp (by omega))
theorem HeapTo.mono {f g : Nat → Ent} {n m : Nat} (h : HeapTo f n) (hm : m ≤ n) (he : ∀ i, i < m → g i = f i) : HeapTo g m := by
  intro i h0 hi
  have hp : par i < i := by unfold par; omega
  unfold okp
  rw [he i hi, he (par i) (by omega)]
  exact h i h0 (by omega)
end Go.Proofs.Ytgabgdeakeliaaa
